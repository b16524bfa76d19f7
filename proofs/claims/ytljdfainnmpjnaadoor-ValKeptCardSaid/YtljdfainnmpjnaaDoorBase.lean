/- Values of the layer val as a plain tree, and what it means that such a tree lies in memory. -/
import Derived.Test.YtljdfainnmpjnaaDoorProg
import Derived.WalkKit
import Derived.Outline
import Derived.Below
import Derived.Lib.Hide
import Derived.Laws.AppendOwn
import Derived.Laws.OwnMore
import Derived.Laws.MakeOwn
import Derived.Deep.Draws
namespace Go.Proofs.YtljdfainnmpjnaaDoor
open Go.RowKit

/-! ### 1. Trees -/
inductive V where
  | mk (k n : Int) (b : List UInt8) (l : List V) (f : List (ByteArray × V))

instance : Inhabited V := ⟨.mk 0 0 [] [] []⟩

def V.k : V → Int | .mk k _ _ _ _ => k
def V.n : V → Int | .mk _ n _ _ _ => n
def V.b : V → List UInt8 | .mk _ _ b _ _ => b
def V.l : V → List V | .mk _ _ _ l _ => l
def V.f : V → List (ByteArray × V) | .mk _ _ _ _ f => f
def V.zero : V := .mk 0 0 [] [] []

theorem V.ind0 {P : V → Prop} (h : ∀ k n b l f, (∀ x ∈ l, P x) → (∀ x ∈ f, P x.2) → P (.mk k n b l f)) (v : V) : P v := by
  refine V.rec (motive_1 := P) (motive_2 := fun l => ∀ x ∈ l, P x) (motive_3 := fun l => ∀ x ∈ l, P x.2) (motive_4 := fun p => P p.2) ?_ ?_ ?_ ?_ ?_ ?_ v
  · intro k n b l f hl hf
    exact h k n b l f hl hf
  · intro x hx
    cases hx
  · intro y r hy hr x hx
    rcases List.mem_cons.1 hx with rfl | hx
    · exact hy
    · exact hr x hx
  · intro x hx
    cases hx
  · intro y r hy hr x hx
    rcases List.mem_cons.1 hx with rfl | hx
    · exact hy
    · exact hr x hx
  · intro s x hx
    exact hx
theorem V.ind {P : V → Prop} (h : ∀ k n b l f, (∀ i (h : i < l.length), P l[i]) → (∀ i (h : i < f.length), P (f[i]).2) → P (.mk k n b l f)) : ∀ v, P v :=
  V.ind0 fun k n b l f hl hf => h k n b l f (fun _ hi => hl _ (List.getElem_mem hi)) (fun _ hi => hf _ (List.getElem_mem hi))

theorem getD_at {α : Type} {l : List α} {i : Nat} {d : α} (h : i < l.length) : l.getD i d = l[i] := by
  simp [List.getD_eq_getElem?_getD, h]

/-! ### 2. Rows of cells -/
/-- n elements of sz cells each lie from A on, in a block of S; c i: the cells of element i. -/
def Row (w : World) (S : Nat → Prop) (A : Option Addr) (sz n : Nat) (c : Nat → List Value) : Prop :=
  0 < n → ∃ b o, A = some ⟨b, o, none⟩ ∧ S b ∧ b < w.heap.size ∧ ∀ i, i < n → (c i).length = sz ∧ ∀ j, j < sz → w.cell? ⟨b, o + i * sz + j, none⟩ = (c i)[j]?

/-- What S holds is the same in both worlds. -/
structure Keeps (S : Nat → Prop) (w w' : World) : Prop where
  size : w.heap.size ≤ w'.heap.size
  block : ∀ k, S k → k < w.heap.size → w'.heap[k]? = w.heap[k]?

theorem Keeps.refl (S : Nat → Prop) (w : World) : Keeps S w w := ⟨Nat.le_refl _, fun _ _ _ => rfl⟩
theorem Keeps.trans {S : Nat → Prop} {w w' w'' : World} (h : Keeps S w w') (h' : Keeps S w' w'') : Keeps S w w'' :=
  ⟨Nat.le_trans h.size h'.size, fun k hk hl => (h'.block k hk (Nat.lt_of_lt_of_le hl h.size)).trans (h.block k hk hl)⟩
theorem Keeps.mono {S S' : Nat → Prop} {w w' : World} (h : Keeps S w w') (hs : ∀ k, k < w.heap.size → S' k → S k) : Keeps S' w w' := ⟨h.size, fun k hk hl => h.block k (hs k hl hk) hl⟩
theorem Keeps.of_below {B : Nat} {w w' : World} (h : Below B w w') (S : Nat → Prop) (hs : ∀ k, k < w.heap.size → S k → k < B) : Keeps S w w' :=
  ⟨h.size, fun k hk hl => h.block k (hs k hl hk)⟩
theorem Keeps.of_grown {w w' : World} {row : Option Nat} (h : w.grownBy w' row) (S : Nat → Prop) (hs : ∀ k, row = some k → ¬ S k) : Keeps S w w' :=
  ⟨h.size, fun k hk hl => h.block k hl (fun e => hs k e.symm hk)⟩

theorem Row.kept {w w' : World} {S : Nat → Prop} {A : Option Addr} {sz n : Nat} {c : Nat → List Value} (h : Row w S A sz n c) (hb : Keeps S w w') : Row w' S A sz n c := by
  intro hn
  obtain ⟨b, o, hA, hS, hl, hc⟩ := h hn
  refine ⟨b, o, hA, hS, Nat.lt_of_lt_of_le hl hb.size, fun i hi => ⟨(hc i hi).1, fun j hj => ?_⟩⟩
  rw [World.cell?_of_block (w := w) (hb.block b hS hl)]
  exact (hc i hi).2 j hj
theorem Row.mono {w : World} {S S' : Nat → Prop} {A : Option Addr} {sz n : Nat} {c : Nat → List Value} (h : Row w S A sz n c) (hs : ∀ k, k < w.heap.size → S k → S' k) : Row w S' A sz n c := by
  intro hn
  obtain ⟨b, o, hA, hS, hl, hc⟩ := h hn
  exact ⟨b, o, hA, hs b hl hS, hl, hc⟩
theorem Row.congr {w : World} {S : Nat → Prop} {A : Option Addr} {sz n : Nat} {c c' : Nat → List Value} (h : Row w S A sz n c) (hc : ∀ i, i < n → c' i = c i) : Row w S A sz n c' := by
  intro hn
  obtain ⟨b, o, hA, hS, hl, h⟩ := h hn
  exact ⟨b, o, hA, hS, hl, fun i hi => by rw [hc i hi]; exact h i hi⟩
theorem Row.nil (w : World) (S : Nat → Prop) (A : Option Addr) (sz : Nat) (c : Nat → List Value) : Row w S A sz 0 c := fun h => absurd h (by omega)

/-- bytes -/
def BRow (w : World) (S : Nat → Prop) (A : Option Addr) (bs : List UInt8) : Prop := Row w S A 1 bs.length (fun i => [.int .u8 (bs.getD i 0).toNat])
theorem BRow.at {w : World} {S : Nat → Prop} {A : Option Addr} {bs : List UInt8} (h : BRow w S A bs) (hn : 0 < bs.length) :
    ∃ b o, A = some ⟨b, o, none⟩ ∧ S b ∧ b < w.heap.size ∧ ∀ i, i < bs.length → w.cell? ⟨b, o + i, none⟩ = some (.int .u8 (bs.getD i 0).toNat) := by
  obtain ⟨b, o, hA, hS, hl, hc⟩ := h hn
  refine ⟨b, o, hA, hS, hl, fun i hi => ?_⟩
  have := (hc i hi).2 0 (by omega)
  simpa using this
theorem BRow.of {w : World} {S : Nat → Prop} {bs : List UInt8} {b o : Nat} (hS : S b) (hl : b < w.heap.size) (h : ∀ i, i < bs.length → w.cell? ⟨b, o + i, none⟩ = some (.int .u8 (bs.getD i 0).toNat)) :
    BRow w S (some ⟨b, o, none⟩) bs := by
  intro _
  refine ⟨b, o, rfl, hS, hl, fun i hi => ⟨rfl, fun j hj => ?_⟩⟩
  obtain rfl : j = 0 := by omega
  simpa using h i hi
theorem BRow.kept {w w' : World} {S : Nat → Prop} {A : Option Addr} {bs : List UInt8} (h : BRow w S A bs) (hb : Keeps S w w') : BRow w' S A bs := Row.kept h hb
theorem BRow.mono {w : World} {S S' : Nat → Prop} {A : Option Addr} {bs : List UInt8} (h : BRow w S A bs) (hs : ∀ k, k < w.heap.size → S k → S' k) : BRow w S' A bs := Row.mono h hs

theorem Row.at5 {w : World} {S : Nat → Prop} {A : Option Addr} {n : Nat} {c : Nat → List Value} (h : Row w S A 5 n c) {i : Nat} (hi : i < n) :
    ∃ b o x0 x1 x2 x3 x4, A = some ⟨b, o, none⟩ ∧ c i = [x0, x1, x2, x3, x4] ∧ w.cell? ⟨b, o + i * 5, none⟩ = some x0 ∧ w.cell? ⟨b, o + i * 5 + 1, none⟩ = some x1 ∧
      w.cell? ⟨b, o + i * 5 + 2, none⟩ = some x2 ∧ w.cell? ⟨b, o + i * 5 + 3, none⟩ = some x3 ∧ w.cell? ⟨b, o + i * 5 + 4, none⟩ = some x4 := by
  obtain ⟨b, o, hA, _, _, hc⟩ := h (by omega)
  obtain ⟨hlen, hcell⟩ := hc i hi
  match hci : c i, hlen with
  | [x0, x1, x2, x3, x4], _ =>
    rw [hci] at hcell
    exact ⟨b, o, x0, x1, x2, x3, x4, hA, rfl, hcell 0 (by omega), hcell 1 (by omega), hcell 2 (by omega), hcell 3 (by omega), hcell 4 (by omega)⟩
theorem Row.at6 {w : World} {S : Nat → Prop} {A : Option Addr} {n : Nat} {c : Nat → List Value} (h : Row w S A 6 n c) {i : Nat} (hi : i < n) :
    ∃ b o s x0 x1 x2 x3 x4, A = some ⟨b, o, none⟩ ∧ c i = [s, x0, x1, x2, x3, x4] ∧ w.cell? ⟨b, o + i * 6, none⟩ = some s ∧ w.cell? ⟨b, o + i * 6 + 1, none⟩ = some x0 ∧ w.cell? ⟨b, o + i * 6 + 2, none⟩ = some x1 ∧
      w.cell? ⟨b, o + i * 6 + 3, none⟩ = some x2 ∧ w.cell? ⟨b, o + i * 6 + 4, none⟩ = some x3 ∧ w.cell? ⟨b, o + i * 6 + 5, none⟩ = some x4 := by
  obtain ⟨b, o, hA, _, _, hc⟩ := h (by omega)
  obtain ⟨hlen, hcell⟩ := hc i hi
  match hci : c i, hlen with
  | [s, x0, x1, x2, x3, x4], _ =>
    rw [hci] at hcell
    exact ⟨b, o, s, x0, x1, x2, x3, x4, hA, rfl, hcell 0 (by omega), hcell 1 (by omega), hcell 2 (by omega), hcell 3 (by omega), hcell 4 (by omega), hcell 5 (by omega)⟩

/-! ### 3. A tree in memory -/
/-- The lengths that memory allows. -/
def Len (n c : Nat) : Prop := n ≤ c ∧ n ≤ 281474976710656 ∧ c ≤ 9223372036854775807

inductive Rep (w : World) (S : Nat → Prop) : V → List Value → Prop where
  | mk (k n : Int) (b : List UInt8) (l : List V) (f : List (ByteArray × V)) (AB AL AF : Option Addr) (cb cl cf : Nat) (L F : Nat → List Value)
    (hk : -9223372036854775808 ≤ k ∧ k ≤ 9223372036854775807) (hn : 0 ≤ n ∧ n ≤ 18446744073709551615)
    (hb : Len b.length cb) (hB : BRow w S AB b)
    (hl : Len l.length cl) (hL : Row w S AL 5 l.length L) (hLs : ∀ i (h : i < l.length), Rep w S l[i] (L i))
    (hf : Len f.length cf) (hF : Row w S AF 6 f.length (fun i => .string (f.getD i default).1 :: F i)) (hFs : ∀ i (h : i < f.length), Rep w S (f[i]).2 (F i)) (hfn : ∀ i (h : i < f.length), (f[i]).1.size ≤ 281474976710656) :
    Rep w S (.mk k n b l f) [.int .i64 k, .int .u64 n, .slice AB b.length cb, .slice AL l.length cl, .slice AF f.length cf]

theorem Rep.inv {w : World} {S : Nat → Prop} {k n : Int} {b : List UInt8} {l : List V} {f : List (ByteArray × V)} {cs : List Value} (h : Rep w S (.mk k n b l f) cs) :
    ∃ (AB AL AF : Option Addr) (cb cl cf : Nat) (L F : Nat → List Value), cs = [.int .i64 k, .int .u64 n, .slice AB b.length cb, .slice AL l.length cl, .slice AF f.length cf] ∧
      (-9223372036854775808 ≤ k ∧ k ≤ 9223372036854775807) ∧ (0 ≤ n ∧ n ≤ 18446744073709551615) ∧ Len b.length cb ∧ BRow w S AB b ∧
      Len l.length cl ∧ Row w S AL 5 l.length L ∧ (∀ i (h : i < l.length), Rep w S l[i] (L i)) ∧
      Len f.length cf ∧ Row w S AF 6 f.length (fun i => .string (f.getD i default).1 :: F i) ∧ (∀ i (h : i < f.length), Rep w S (f[i]).2 (F i)) ∧ (∀ i (h : i < f.length), (f[i]).1.size ≤ 281474976710656) := by
  cases h
  exact ⟨_, _, _, _, _, _, _, _, rfl, by assumption, by assumption, by assumption, by assumption, by assumption, by assumption, by assumption, by assumption, by assumption, by assumption, by assumption⟩

theorem Rep.kept {w w' : World} {S : Nat → Prop} (hb : Keeps S w w') {v : V} {cs : List Value} (h : Rep w S v cs) : Rep w' S v cs := by
  induction h with
  | mk k n b l f AB AL AF cb cl cf L F hk hn hb' hB hl hL _ hf hF _ hfn ihL ihF =>
    exact .mk k n b l f AB AL AF cb cl cf L F hk hn hb' (hB.kept hb) hl (hL.kept hb) ihL hf (hF.kept hb) ihF hfn
theorem Rep.mono {w : World} {S S' : Nat → Prop} (hs : ∀ k, k < w.heap.size → S k → S' k) {v : V} {cs : List Value} (h : Rep w S v cs) : Rep w S' v cs := by
  induction h with
  | mk k n b l f AB AL AF cb cl cf L F hk hn hb' hB hl hL _ hf hF _ hfn ihL ihF =>
    exact .mk k n b l f AB AL AF cb cl cf L F hk hn hb' (hB.mono hs) hl (hL.mono hs) ihL hf (hF.mono hs) ihF hfn

/-- A tree that lies somewhere in memory, all of it there already. -/
abbrev Old (w : World) : Nat → Prop := fun b => b < w.heap.size
abbrev Rep0 (w : World) (v : V) (cs : List Value) : Prop := Rep w (Old w) v cs
theorem Rep.old {w : World} {S : Nat → Prop} {v : V} {cs : List Value} (h : Rep w S v cs) : Rep0 w v cs := h.mono fun _ h _ => h
theorem Rep0.below {w w' : World} (hb : Below w.heap.size w w') {v : V} {cs : List Value} (h : Rep0 w v cs) : Rep0 w' v cs :=
  ((Rep.kept (Keeps.of_below hb _ fun _ _ h => h)) h).mono fun _ _ h => Nat.lt_of_lt_of_le h hb.size
abbrev BRow0 (w : World) (A : Option Addr) (bs : List UInt8) : Prop := BRow w (Old w) A bs
theorem BRow.old {w : World} {S : Nat → Prop} {A : Option Addr} {bs : List UInt8} (h : BRow w S A bs) : BRow0 w A bs := h.mono fun _ h _ => h
theorem BRow0.below {w w' : World} (hb : Below w.heap.size w w') {A : Option Addr} {bs : List UInt8} (h : BRow0 w A bs) : BRow0 w' A bs :=
  (h.kept (Keeps.of_below hb _ fun _ _ h => h)).mono fun _ _ h => Nat.lt_of_lt_of_le h hb.size

/-! ### 4. Blocks of the call's own -/
theorem blk_alloc {w w' : World} {X : Obj} (h : Below (w.heap.size + 1) (w.alloc X) w') : w'.heap[w.heap.size]? = some X := by
  rw [h.block _ (by omega)]; exact heap_alloc_new w X
theorem cell_blk {w : World} {b : Nat} {c : Array Value} {T : TypeId} {fr : Nat × Nat} (h : w.heap[b]? = some (.cells c T fr)) (j : Nat) : w.cell? ⟨b, j, none⟩ = c[j]? := by
  simp [World.cell?, h]
theorem frozen_blk {w : World} {b : Nat} {c : Array Value} {T : TypeId} (h : w.heap[b]? = some (.cells c T (0, 0))) (j : Nat) : w.frozen? ⟨b, j, none⟩ = false := by
  simp [World.frozen?, h]
theorem below_of_alloc {w w' : World} {X : Obj} (h : Below (w.heap.size + 1) (w.alloc X) w') : Below w.heap.size w w' :=
  ((Below.refl w.heap.size w).alloc (Nat.le_refl _) X).trans (h.mono (by omega))
theorem below_alloc_trans {w w1 w2 : World} {X : Obj} (h : Below (w.heap.size + 1) (w.alloc X) w1) (h' : Below w1.heap.size w1 w2) : Below (w.heap.size + 1) (w.alloc X) w2 :=
  h.trans (h'.mono (by have := h.size; simpa using this))
theorem below_cell {w w' : World} (hb : Below w.heap.size w w') {a : Addr} {v : Value} (h : w.cell? a = some v) : w'.cell? a = some v :=
  (hb.cell (World.block_lt_of_cell? _ _ h)).trans h
theorem below_step {B : Nat} {w w1 w2 : World} (h : Below B w w1) (hB : B ≤ w.heap.size) (h' : Below w1.heap.size w1 w2) : Below B w w2 :=
  h.trans (h'.mono (Nat.le_trans hB h.size))
theorem below_of_alloc2 {w w' : World} {X Y : Obj} (h : Below (w.heap.size + 2) ((w.alloc X).alloc Y) w') : Below w.heap.size w w' :=
  (((Below.refl w.heap.size w).alloc (Nat.le_refl _) X).alloc (by simp) Y).trans (h.mono (by omega))
theorem blk_alloc2 {w w' : World} {X Y : Obj} (h : Below (w.heap.size + 2) ((w.alloc X).alloc Y) w') : w'.heap[w.heap.size]? = some X ∧ w'.heap[w.heap.size + 1]? = some Y := by
  constructor
  · rw [h.block _ (by omega), Below.heap_alloc _ _ _ (by simp)]; exact heap_alloc_new w X
  · rw [h.block _ (by omega)]
    have := heap_alloc_new (w.alloc X) Y
    simpa using this
theorem below_alloc2_trans {w w1 w2 : World} {X Y : Obj} (h : Below (w.heap.size + 2) ((w.alloc X).alloc Y) w1) (h' : Below w1.heap.size w1 w2) : Below (w.heap.size + 2) ((w.alloc X).alloc Y) w2 :=
  h.trans (h'.mono (by have := h.size; simpa using this))
theorem below_drewN (B : Nat) (w : World) : ∀ n, Below B w (w.drewN n)
  | 0 => Below.refl _ _
  | n + 1 => (below_drewN B w n).drew
end Go.Proofs.YtljdfainnmpjnaaDoor

/- Trees that lie in blocks of their own types, each row from a whole place on. -/
import Derived.Test.YtljdfainnmpjnaaDoorOwn
set_option linter.unusedVariables false
namespace Go.Proofs.YtljdfainnmpjnaaDoor
open Go.RowKit

/-- As Row, in a block of cells of type T, from a whole element on. -/
def TRow (w : World) (S : Nat → Prop) (T : TypeId) (A : Option Addr) (sz n : Nat) (c : Nat → List Value) : Prop :=
  0 < n → ∃ b o cur, A = some ⟨b, o * sz, none⟩ ∧ S b ∧ w.heap[b]? = some (.cells cur T (0, 0)) ∧ ∀ i, i < n → (c i).length = sz ∧ ∀ j, j < sz → cur[(o + i) * sz + j]? = (c i)[j]?
theorem TRow.row {w : World} {S : Nat → Prop} {T : TypeId} {A : Option Addr} {sz n : Nat} {c : Nat → List Value} (h : TRow w S T A sz n c) : Row w S A sz n c := by
  intro hn
  obtain ⟨b, o, cur, hA, hS, hb, hc⟩ := h hn
  refine ⟨b, o * sz, hA, hS, (Array.getElem?_eq_some_iff.1 hb).1, fun i hi => ⟨(hc i hi).1, fun j hj => ?_⟩⟩
  rw [cell_blk hb, ← Nat.add_mul]
  exact (hc i hi).2 j hj
theorem TRow.kept {w w' : World} {S : Nat → Prop} {T : TypeId} {A : Option Addr} {sz n : Nat} {c : Nat → List Value} (h : TRow w S T A sz n c) (hb : Keeps S w w') : TRow w' S T A sz n c := by
  intro hn
  obtain ⟨b, o, cur, hA, hS, hl, hc⟩ := h hn
  exact ⟨b, o, cur, hA, hS, by rw [hb.block b hS (Array.getElem?_eq_some_iff.1 hl).1]; exact hl, hc⟩
theorem TRow.mono {w : World} {S S' : Nat → Prop} {T : TypeId} {A : Option Addr} {sz n : Nat} {c : Nat → List Value} (h : TRow w S T A sz n c) (hs : ∀ k, k < w.heap.size → S k → S' k) : TRow w S' T A sz n c := by
  intro hn
  obtain ⟨b, o, cur, hA, hS, hl, hc⟩ := h hn
  exact ⟨b, o, cur, hA, hs b (Array.getElem?_eq_some_iff.1 hl).1 hS, hl, hc⟩
theorem TRow.congr {w : World} {S : Nat → Prop} {T : TypeId} {A : Option Addr} {sz n : Nat} {c c' : Nat → List Value} (h : TRow w S T A sz n c) (hc : ∀ i, i < n → c' i = c i) : TRow w S T A sz n c' := by
  intro hn
  obtain ⟨b, o, cur, hA, hS, hl, h⟩ := h hn
  exact ⟨b, o, cur, hA, hS, hl, fun i hi => by rw [hc i hi]; exact h i hi⟩
theorem TRow.nil (w : World) (S : Nat → Prop) (T : TypeId) (A : Option Addr) (sz : Nat) (c : Nat → List Value) : TRow w S T A sz 0 c := fun h => absurd h (by omega)
/-- bytes -/
def TBRow (w : World) (S : Nat → Prop) (A : Option Addr) (bs : List UInt8) : Prop := TRow w S 5 A 1 bs.length (fun i => [.int .u8 (bs.getD i 0).toNat])

inductive TRep (w : World) (S : Nat → Prop) : V → List Value → Prop where
  | mk (k n : Int) (b : List UInt8) (l : List V) (f : List (ByteArray × V)) (AB AL AF : Option Addr) (cb cl cf : Nat) (L F : Nat → List Value)
    (hk : -9223372036854775808 ≤ k ∧ k ≤ 9223372036854775807) (hn : 0 ≤ n ∧ n ≤ 18446744073709551615)
    (hb : Len b.length cb) (hB : TBRow w S AB b)
    (hl : Len l.length cl) (hL : TRow w S 27 AL 5 l.length L) (hLs : ∀ i (h : i < l.length), TRep w S l[i] (L i))
    (hf : Len f.length cf) (hF : TRow w S 59 AF 6 f.length (fun i => .string (f.getD i default).1 :: F i)) (hFs : ∀ i (h : i < f.length), TRep w S (f[i]).2 (F i)) (hfn : ∀ i (h : i < f.length), (f[i]).1.size ≤ 281474976710656) :
    TRep w S (.mk k n b l f) [.int .i64 k, .int .u64 n, .slice AB b.length cb, .slice AL l.length cl, .slice AF f.length cf]
theorem TRep.inv {w : World} {S : Nat → Prop} {k n : Int} {b : List UInt8} {l : List V} {f : List (ByteArray × V)} {cs : List Value} (h : TRep w S (.mk k n b l f) cs) :
    ∃ (AB AL AF : Option Addr) (cb cl cf : Nat) (L F : Nat → List Value), cs = [.int .i64 k, .int .u64 n, .slice AB b.length cb, .slice AL l.length cl, .slice AF f.length cf] ∧
      (-9223372036854775808 ≤ k ∧ k ≤ 9223372036854775807) ∧ (0 ≤ n ∧ n ≤ 18446744073709551615) ∧ Len b.length cb ∧ TBRow w S AB b ∧
      Len l.length cl ∧ TRow w S 27 AL 5 l.length L ∧ (∀ i (h : i < l.length), TRep w S l[i] (L i)) ∧
      Len f.length cf ∧ TRow w S 59 AF 6 f.length (fun i => .string (f.getD i default).1 :: F i) ∧ (∀ i (h : i < f.length), TRep w S (f[i]).2 (F i)) ∧ (∀ i (h : i < f.length), (f[i]).1.size ≤ 281474976710656) := by
  cases h
  exact ⟨_, _, _, _, _, _, _, _, rfl, by assumption, by assumption, by assumption, by assumption, by assumption, by assumption, by assumption, by assumption, by assumption, by assumption, by assumption⟩
theorem TRep.rep {w : World} {S : Nat → Prop} {v : V} {cs : List Value} (h : TRep w S v cs) : Rep w S v cs := by
  induction h with
  | mk k n b l f AB AL AF cb cl cf L F hk hn hb' hB hl hL _ hf hF _ hfn ihL ihF =>
    exact .mk k n b l f AB AL AF cb cl cf L F hk hn hb' hB.row hl hL.row ihL hf hF.row ihF hfn
theorem TRep.kept {w w' : World} {S : Nat → Prop} (hb : Keeps S w w') {v : V} {cs : List Value} (h : TRep w S v cs) : TRep w' S v cs := by
  induction h with
  | mk k n b l f AB AL AF cb cl cf L F hk hn hb' hB hl hL _ hf hF _ hfn ihL ihF =>
    exact .mk k n b l f AB AL AF cb cl cf L F hk hn hb' (TRow.kept hB hb) hl (hL.kept hb) ihL hf (hF.kept hb) ihF hfn
theorem TRep.mono {w : World} {S S' : Nat → Prop} (hs : ∀ k, k < w.heap.size → S k → S' k) {v : V} {cs : List Value} (h : TRep w S v cs) : TRep w S' v cs := by
  induction h with
  | mk k n b l f AB AL AF cb cl cf L F hk hn hb' hB hl hL _ hf hF _ hfn ihL ihF =>
    exact .mk k n b l f AB AL AF cb cl cf L F hk hn hb' (TRow.mono hB hs) hl (hL.mono hs) ihL hf (hF.mono hs) ihF hfn
theorem TRep.five {w : World} {S : Nat → Prop} {v : V} {cs : List Value} (h : TRep w S v cs) : ∃ c0 c1 c2 c3 c4, cs = [c0, c1, c2, c3, c4] ∧ ∀ u ∈ cs, u.oneCell' = true := by
  obtain ⟨k, n, b, l, f⟩ := v
  obtain ⟨AB, AL, AF, cb, cl, cf, L, F, rfl, -⟩ := h.inv
  refine ⟨_, _, _, _, _, rfl, fun u hu => ?_⟩
  simp only [List.mem_cons, List.not_mem_nil, or_false] at hu
  rcases hu with rfl | rfl | rfl | rfl | rfl <;> rfl

theorem own_trow {w : World} {base size n : Nat} {e : TypeId} {v : Value} {xs : List Value} (h : w.ownsRow base e size v n xs) (c : Nat → List Value)
    (hc : ∀ i, i < n → (c i).length = size ∧ ∀ j, j < size → xs[i * size + j]? = (c i)[j]?) (S : Nat → Prop) (hS : ∀ k, v.ownBlock = some k → S k) :
    ∃ A cap, v = .slice A n cap ∧ n ≤ cap ∧ cap ≤ 9223372036854775807 ∧ TRow w S e A size n c := by
  have hlen := h.1
  rcases h.2 with ⟨rfl, rfl⟩ | ⟨g, cap, cur, rfl, hb, hg, hnc, hcm, hsz, htake⟩
  · exact ⟨none, 0, rfl, Nat.le_refl _, by omega, TRow.nil _ _ _ _ _ _⟩
  · unfold maxLen at hcm
    refine ⟨_, cap, rfl, hnc, hcm, fun _ => ⟨g, 0, cur, by rw [Nat.zero_mul], hS g rfl, hg, fun i hi => ⟨(hc i hi).1, fun j hj => ?_⟩⟩⟩
    have hlt : i * size + j < n * size := by
      have := Nat.mul_le_mul_right size (show i + 1 ≤ n from hi)
      rw [Nat.add_mul, Nat.one_mul] at this
      omega
    rw [← (hc i hi).2 j hj, Nat.zero_add, ← htake, List.getElem?_take, if_pos hlt]
    simp
theorem Own.trow {w : World} {base : Nat} {v : Value} {bs : List UInt8} (h : Own w base v bs) (S : Nat → Prop) (hS : ∀ k, v.ownBlock = some k → S k) :
    ∃ A cap, v = .slice A bs.length cap ∧ bs.length ≤ cap ∧ cap ≤ 9223372036854775807 ∧ TBRow w S A bs := by
  exact own_trow h _ (fun i hi => ⟨rfl, fun j hj => by
    obtain rfl : j = 0 := (by omega)
    rw [Nat.mul_one, Nat.add_zero, bcells_get bs hi]; rfl⟩) S hS
end Go.Proofs.YtljdfainnmpjnaaDoor

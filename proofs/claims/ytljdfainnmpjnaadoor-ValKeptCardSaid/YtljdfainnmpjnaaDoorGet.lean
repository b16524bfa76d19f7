/- The program's Get. -/
import Derived.Test.YtljdfainnmpjnaaDoorValues
import Derived.Test.YtljdfainnmpjnaaDoorCatch
set_option linter.unusedVariables false
namespace Go.Proofs.YtljdfainnmpjnaaDoor
open Go.RowKit

abbrev V0 : V := .mk 0 0 [] [] []
/-- What Get tells: a value and a fault's number. -/
noncomputable def getV (bs : List UInt8) : V × Int :=
  if 4096 < bs.length then (V0, 2) else match parse 16 bs with
  | .error e => (V0, e)
  | .ok (v, []) => (v, 0)
  | .ok (_, _ :: _) => (V0, 4)
theorem getV_long {bs : List UInt8} (h : 4096 < bs.length) : getV bs = (V0, 2) := by unfold getV; rw [if_pos h]
theorem getV_no {bs : List UInt8} {e : Int} (h : ¬ 4096 < bs.length) (h2 : parse 16 bs = .error e) : getV bs = (V0, e) := by unfold getV; rw [if_neg h, h2]
theorem getV_ok {bs : List UInt8} {v : V} (h : ¬ 4096 < bs.length) (h2 : parse 16 bs = .ok (v, [])) : getV bs = (v, 0) := by unfold getV; rw [if_neg h, h2]
theorem getV_more {bs : List UInt8} {v : V} {x : UInt8} {r : List UInt8} (h : ¬ 4096 < bs.length) (h2 : parse 16 bs = .ok (v, x :: r)) : getV bs = (V0, 4) := by unfold getV; rw [if_neg h, h2]

/-- What Get ends in. -/
def GetsT (w : World) (g : V × Int) (e : Ending) (w' : World) : Prop :=
  ∃ cs, e = .returned (.tuple #[.agg cs.toArray, .int .i64 g.2]) ∧ TRep w' (fun k => w.heap.size ≤ k) g.1 cs ∧ Below w.heap.size w w'

/-- What the walk's end tells. -/
theorem get_done {W : World} {b q : Nat} {c0 c1 c2 c3 c4 x : Value} (hb : W.heap[b]? = some (.cells #[c0, c1, c2, c3, c4] 27 (0, 0))) (hq : W.heap[q]? = some (.cells #[x] 28 (0, 0)))
    (tmps : Array Value) (h2 : tmps[2]?.getD undef = .pointer (some ⟨b, 0, none⟩)) (h3 : tmps[3]?.getD undef = .pointer (some ⟨q, 0, none⟩)) :
    (results Tryd.f14 tmps).run Tryd.prog W = .ok (.tuple #[.agg #[c0, c1, c2, c3, c4], x]) W := by
  have d0 : W.cell? ⟨b, 0, none⟩ = some c0 := cell_blk hb 0
  have d1 : W.cell? ⟨b, 1, none⟩ = some c1 := cell_blk hb 1
  have d2 : W.cell? ⟨b, 2, none⟩ = some c2 := cell_blk hb 2
  have d3 : W.cell? ⟨b, 3, none⟩ = some c3 := cell_blk hb 3
  have d4 : W.cell? ⟨b, 4, none⟩ = some c4 := cell_blk hb 4
  have e0 : W.cell? ⟨q, 0, none⟩ = some x := cell_blk hq 0
  simp [results, Tryd.results14, go_sem, h2, h3, d0, d1, d2, d3, d4, e0]
set_option maxRecDepth 100000 in
set_option maxHeartbeats 2000000 in
theorem get_long (w : World) (A : Option Addr) (c : Nat) (bs : List UInt8) (h : 4096 < bs.length) : Calls Tryd.prog 14 #[.slice A bs.length c] w (GetsT w (V0, 2)) := by
  have hd : 4096 < (bs.length : Int) := by omega
  have hmf : ∀ (fn : Fn) (first cap : Array Value) (w : World), (Instr.makeFunc fn first cap).run Tryd.prog w = .ok (.func fn first cap) w := fun _ _ _ _ => rfl
  go_enter_defers Tryd.func14, Tryd.ntmps14
  go_wp2_with fail
  have hb : Below w.heap.size w ((w.alloc (.cells vzero 27)).alloc (.cells #[.int .i64 2] 28)) := ((Below.refl _ _).alloc (Nat.le_refl _) _).alloc (by simp) _
  have h1 : ((w.alloc (.cells vzero 27)).alloc (.cells #[.int .i64 2] 28)).heap[w.heap.size]? = some (.cells vzero 27 (0, 0)) := by
    rw [((Below.refl (w.heap.size + 1) (w.alloc (.cells vzero 27))).alloc (by simp) (.cells #[.int .i64 2] 28)).block _ (by omega)]
    exact heap_alloc_new w _
  have h2 : ((w.alloc (.cells vzero 27)).alloc (.cells #[.int .i64 2] 28)).heap[w.heap.size + 1]? = some (.cells #[.int .i64 2] 28 (0, 0)) := by
    have := heap_alloc_new (w.alloc (.cells vzero 27)) (.cells #[.int .i64 2] 28)
    simpa using this
  generalize (w.alloc (.cells vzero 27)).alloc (.cells #[.int .i64 2] 28) = W at hb h1 h2 ⊢
  have hd := get_done h1 h2
  simp [bodyPostD, Leaves, hd]
  exact ⟨_, rfl, trep_atom (by omega) (by omega), hb⟩
theorem heap_caught {W : World} {b q : Nat} {c0 c1 c2 c3 c4 x d0 d1 d2 d3 d4 y : Value} (hb : W.heap[b]? = some (.cells #[c0, c1, c2, c3, c4] 27 (0, 0))) (hq : W.heap[q]? = some (.cells #[x] 28 (0, 0))) (hne : q ≠ b) :
    ((((((W.setCell ⟨b, 0, none⟩ d0).setCell ⟨b, 1, none⟩ d1).setCell ⟨b, 2, none⟩ d2).setCell ⟨b, 3, none⟩ d3).setCell ⟨b, 4, none⟩ d4).setCell ⟨q, 0, none⟩ y).heap[b]? = some (.cells #[d0, d1, d2, d3, d4] 27 (0, 0)) ∧
    ((((((W.setCell ⟨b, 0, none⟩ d0).setCell ⟨b, 1, none⟩ d1).setCell ⟨b, 2, none⟩ d2).setCell ⟨b, 3, none⟩ d3).setCell ⟨b, 4, none⟩ d4).setCell ⟨q, 0, none⟩ y).heap[q]? = some (.cells #[y] 28 (0, 0)) := by
  have h1 : ¬ b = q := fun e => hne e.symm
  constructor <;> simp [World.setCell, Array.getElem?_modify, hb, hq, hne, h1]
theorem heap_five {W : World} {b q : Nat} {c0 c1 c2 c3 c4 x d0 d1 d2 d3 d4 : Value} (hb : W.heap[b]? = some (.cells #[c0, c1, c2, c3, c4] 27 (0, 0))) (hq : W.heap[q]? = some (.cells #[x] 28 (0, 0))) (hne : q ≠ b) :
    (((((W.setCell ⟨b, 0, none⟩ d0).setCell ⟨b, 1, none⟩ d1).setCell ⟨b, 2, none⟩ d2).setCell ⟨b, 3, none⟩ d3).setCell ⟨b, 4, none⟩ d4).heap[b]? = some (.cells #[d0, d1, d2, d3, d4] 27 (0, 0)) ∧
    (((((W.setCell ⟨b, 0, none⟩ d0).setCell ⟨b, 1, none⟩ d1).setCell ⟨b, 2, none⟩ d2).setCell ⟨b, 3, none⟩ d3).setCell ⟨b, 4, none⟩ d4).heap[q]? = some (.cells #[x] 28 (0, 0)) := by
  have h1 : ¬ b = q := fun e => hne e.symm
  constructor <;> simp [World.setCell, Array.getElem?_modify, hb, hq, h1]
theorem below_set {B : Nat} {w W : World} (h : Below B w W) {k j : Nat} {v : Value} (hk : B ≤ k) : Below B w (W.setCell ⟨k, j, none⟩ v) :=
  ⟨h.os, h.tape, h.output, by simpa [World.setCell] using h.size, fun i hi => by rw [Below.heap_setCell _ _ _ _ (by simp only; omega)]; exact h.block i hi⟩
theorem below_five {B : Nat} {w W : World} (h : Below B w W) {b : Nat} (hb : B ≤ b) (d0 d1 d2 d3 d4 : Value) :
    Below B w (((((W.setCell ⟨b, 0, none⟩ d0).setCell ⟨b, 1, none⟩ d1).setCell ⟨b, 2, none⟩ d2).setCell ⟨b, 3, none⟩ d3).setCell ⟨b, 4, none⟩ d4) :=
  below_set (below_set (below_set (below_set (below_set h hb) hb) hb) hb) hb
theorem below_six {B : Nat} {w W : World} (h : Below B w W) {b q : Nat} (hb : B ≤ b) (hq : B ≤ q) (d0 d1 d2 d3 d4 y : Value) :
    Below B w ((((((W.setCell ⟨b, 0, none⟩ d0).setCell ⟨b, 1, none⟩ d1).setCell ⟨b, 2, none⟩ d2).setCell ⟨b, 3, none⟩ d3).setCell ⟨b, 4, none⟩ d4).setCell ⟨q, 0, none⟩ y) := by
  have one : ∀ {W : World} {k j : Nat} {v : Value}, Below B w W → B ≤ k → Below B w (W.setCell ⟨k, j, none⟩ v) := fun {W k j v} h hk => ⟨h.os, h.tape, h.output, by simpa [World.setCell] using h.size, fun i hi => by rw [Below.heap_setCell _ _ _ _ (by simp only; omega)]; exact h.block i hi⟩
  exact one (one (one (one (one (one h hb) hb) hb) hb) hb) hq

set_option maxRecDepth 100000 in
set_option maxHeartbeats 4000000 in
theorem get_anyT (hV : ValidC) (hN : NameC) (bs : List UInt8) (w : World) (S : Nat → Prop) (A : Option Addr) (c : Nat) (hA : BRow w S A bs) (hS : ∀ k, S k → k < w.heap.size) (hc : bs.length ≤ c) (hc2 : c ≤ 9223372036854775807) (hT : Tabs w) :
    Calls Tryd.prog 14 #[.slice A bs.length c] w (GetsT w (getV bs)) := by
  by_cases hl : 4096 < bs.length
  · rw [getV_long hl]
    exact get_long w A c bs hl
  obtain ⟨W1, hW1⟩ : ∃ W1, w.alloc (.cells vzero 27) = W1 := ⟨_, rfl⟩
  obtain ⟨W2, hW2⟩ : ∃ W2, W1.alloc (.cells #[.int .i64 0] 28) = W2 := ⟨_, rfl⟩
  obtain ⟨W3, hW3⟩ : ∃ W3, W2.alloc (.cells #[.slice A bs.length c] 70) = W3 := ⟨_, rfl⟩
  have s1 : W1.heap.size = w.heap.size + 1 := by rw [← hW1]; simp
  have s2 : W2.heap.size = w.heap.size + 2 := by rw [← hW2]; simp [s1]
  have s3 : W3.heap.size = w.heap.size + 3 := by rw [← hW3]; simp [s2]
  have b1 : Below w.heap.size w W1 := hW1 ▸ (Below.refl _ _).alloc (Nat.le_refl _) _
  have b12 : Below W1.heap.size W1 W2 := hW2 ▸ (Below.refl _ _).alloc (Nat.le_refl _) _
  have b23 : Below W2.heap.size W2 W3 := hW3 ▸ (Below.refl _ _).alloc (Nat.le_refl _) _
  have b3 : Below w.heap.size w W3 := (b1.trans (b12.mono (by omega))).trans (b23.mono (by omega))
  have h1 : W3.heap[w.heap.size]? = some (.cells vzero 27 (0, 0)) := by
    rw [b23.block _ (by omega), b12.block _ (by omega), ← hW1]; exact heap_alloc_new w _
  have h2 : W3.heap[w.heap.size + 1]? = some (.cells #[.int .i64 0] 28 (0, 0)) := by
    rw [b23.block _ (by omega), ← s1, ← hW2]; exact heap_alloc_new W1 _
  have h3 : W3.heap[w.heap.size + 2]? = some (.cells #[.slice A bs.length c] 70 (0, 0)) := by
    rw [← s2, ← hW3]; exact heap_alloc_new W2 _
  have hR : Reads W3 S (w.heap.size + 2) bs := ⟨⟨A, c, h3, hA.belowS b3, hc, hc2⟩, fun h => by have := hS _ h; omega, by omega⟩
  have hT3 : Tabs W3 := hT.keeps (Keeps.of_below b3 (Old w) fun _ _ h => h) (World.block_lt_of_cell? w _ (hT.1 0 (by omega))) (World.block_lt_of_cell? w _ (hT.2 0 (by omega)).1)
  have g0 : 0 < w.heap.size := World.block_lt_of_cell? w _ (hT.1 0 (by omega))
  have g1 : 1 < w.heap.size := World.block_lt_of_cell? w _ (hT.2 0 (by omega)).1
  have hC := value_any hV hN 16 0 (by omega) (Nat.le_refl _) W3 S (w.heap.size + 2) bs hR (fun k hk => by have := hS k hk; omega) hT3 (by omega) (by omega)
  -- the way out by a fault
  have caught : ∀ (e : Int) (w' : World) (tmps : Array Value) (c0 c1 c2 c3 c4 : Value), Below w.heap.size w w' → w'.heap[w.heap.size]? = some (.cells #[c0, c1, c2, c3, c4] 27 (0, 0)) → w'.heap[w.heap.size + 1]? = some (.cells #[.int .i64 0] 28 (0, 0)) →
      tmps[2]?.getD undef = .pointer (some ⟨w.heap.size, 0, none⟩) → tmps[3]?.getD undef = .pointer (some ⟨w.heap.size + 1, 0, none⟩) →
      Leaves Tryd.prog Tryd.f14 tmps (GetsT w (V0, e)) [{ target := .fn (.func 40) #[.pointer (some ⟨w.heap.size, 0, none⟩), .pointer (some ⟨w.heap.size + 1, 0, none⟩)], args := #[] }] (.panicking [{ v := .iface 28 (.int .i64 e), recovered := false }]) w' := by
    intro e w' tmps c0 c1 c2 c3 c4 hb hbb hq t2 t3
    refine leaves_cons (f := 40) (args := #[.pointer (some ⟨w.heap.size, 0, none⟩), .pointer (some ⟨w.heap.size + 1, 0, none⟩)]) (by simp) (by simp [go_sem]) ?_
    refine (catch_thrown w.heap.size (w.heap.size + 1) e [] w' c0 c1 c2 c3 c4 _ hbb hq (by omega)).mono ?_
    rintro e' u' w'' ⟨rfl, rfl, rfl⟩
    obtain ⟨k1, k2⟩ := heap_caught (d0 := .int .i64 0) (d1 := .int .u64 0) (d2 := .slice none 0 0) (d3 := .slice none 0 0) (d4 := .slice none 0 0) (y := .int .i64 e) hbb hq (by omega)
    have hd := get_done k1 k2 tmps t2 t3
    simp [Leaves, settle, hd]
    exact ⟨_, rfl, trep_atom (by omega) (by omega), below_six hb (Nat.le_refl _) (by omega) _ _ _ _ _ _⟩
  have HCAUGHT := @Lib.hid _ @caught
  have HC := @Lib.hid _ @hC
  have HB3 := Lib.hid b3
  have H1 := Lib.hid h1
  have H2 := Lib.hid h2
  obtain ⟨G, hG⟩ : ∃ G, getV bs = G := ⟨_, rfl⟩
  rw [hG]
  have HG := Lib.hid hG
  have hd : decide (4096 < (bs.length : Int)) = false := decide_eq_false (by omega)
  have hmf : ∀ (fn : Fn) (first cap : Array Value) (w : World), (Instr.makeFunc fn first cap).run Tryd.prog w = .ok (.func fn first cap) w := fun _ _ _ _ => rfl
  subst hW1
  subst hW2
  have HW3 := Lib.hid hW3
  have HS := Lib.hid s3
  clear hC caught hG b1 b12 b23 b3 h1 h2 h3 hR hT3 hW3 s1 s2 s3
  go_enter_defers Tryd.func14, Tryd.ntmps14
  go_wp2_with fail
  have hw3 := HW3.out
  simp only [vzero] at hw3
  rw [hw3]
  clear hw3 hmf hd
  refine HC.out.mono ?_
  rcases hp : parse 16 bs with e | ⟨v, rest⟩
  · rintro e' w' ⟨rfl, hg⟩
    have hG := HG.out
    rw [getV_no hl hp] at hG
    subst hG
    have hs3 := HS.out
    exact HCAUGHT.out e w' _ _ _ _ _ _ (HB3.out.trans (below_of_grown hg _ (by omega) (fun k hk => by cases hk; omega))) (by rw [hg.block _ (by omega) (by simp)]; exact H1.out) (by rw [hg.block _ (by omega) (by simp)]; exact H2.out) rfl rfl
  · rintro e' w' ⟨cs, rfl, hr, hr2, hg⟩
    obtain ⟨k, n, b, l, f⟩ := v
    have hrr := hr
    obtain ⟨AB, AL, AF, cb, cl, cf, L, F, rfl, -⟩ := hr.inv
    clear hr
    have hs3 := HS.out
    have hbw := HB3.out.trans (below_of_grown hg _ (by omega) (fun k hk => by cases hk; omega))
    have hb' : w'.heap[w.heap.size]? = some (.cells vzero 27 (0, 0)) := by rw [hg.block _ (by omega) (by simp)]; exact H1.out
    have hq' : w'.heap[w.heap.size + 1]? = some (.cells #[.int .i64 0] 28 (0, 0)) := by rw [hg.block _ (by omega) (by simp)]; exact H2.out
    obtain ⟨A', c', hr', -, -, -⟩ := hr2.blk
    have hrl := hr2.len
    have e0 := cell_blk hb' 0; have e1 := cell_blk hb' 1; have e2 := cell_blk hb' 2; have e3 := cell_blk hb' 3; have e4 := cell_blk hb' 4; have eq := cell_blk hq' 0; have er := cell_blk hr' 0
    have f0 := frozen_blk hb' 0; have f1 := frozen_blk hb' 1; have f2 := frozen_blk hb' 2; have f3 := frozen_blk hb' 3; have f4 := frozen_blk hb' 4; have fq := frozen_blk hq' 0
    have HR := Lib.hid hrr
    have HBW := Lib.hid hbw
    have HB' := Lib.hid hb'
    have HQ' := Lib.hid hq'
    clear hrr hbw hb' hq' hr' hr2 hg hs3
    have HP := Lib.hid hp
    clear hp
    cases rest with
    | nil =>
      have hG := HG.out
      rw [getV_ok hl HP.out] at hG
      subst hG
      simp only [List.length_nil] at er
      go_wp2_with fail
      refine (must_ok _ _).mono ?_
      rintro e w4 ⟨rfl, rfl⟩
      go_wp2_with fail
      have hs3 := HS.out
      obtain ⟨k1, k2⟩ := heap_five (d0 := .int .i64 k) (d1 := .int .u64 n) (d2 := .slice AB b.length cb) (d3 := .slice AL l.length cl) (d4 := .slice AF f.length cf) HB'.out HQ'.out (by omega)
      obtain ⟨m1, m2⟩ := heap_caught (d0 := .int .i64 k) (d1 := .int .u64 n) (d2 := .slice AB b.length cb) (d3 := .slice AL l.length cl) (d4 := .slice AF f.length cf) (y := .int .i64 0) k1 k2 (by omega)
      have hb6 := below_six (below_five HBW.out (Nat.le_refl _) (.int .i64 k) (.int .u64 n) (.slice AB b.length cb) (.slice AL l.length cl) (.slice AF f.length cf)) (Nat.le_refl _) (Nat.le_succ _) (.int .i64 k) (.int .u64 n) (.slice AB b.length cb) (.slice AL l.length cl) (.slice AF f.length cf) (.int .i64 0)
      have hr6 := ((trep_again (trep_again HR.out (b := w.heap.size) (by omega) (.int .i64 k) (.int .u64 n) (.slice AB b.length cb) (.slice AL l.length cl) (.slice AF f.length cf)) (b := w.heap.size) (by omega) (.int .i64 k) (.int .u64 n) (.slice AB b.length cb) (.slice AL l.length cl) (.slice AF f.length cf))).kept (.set (b := w.heap.size + 1) (by omega) 0 (.int .i64 0))
      refine (show Leaves _ _ _ _ _ _ _ from ?_)
      refine leaves_cons (f := 40) (args := #[.pointer (some ⟨w.heap.size, 0, none⟩), .pointer (some ⟨w.heap.size + 1, 0, none⟩)]) (by simp) (by simp [go_sem]) ?_
      refine (catch_idle w.heap.size (w.heap.size + 1) _).mono ?_
      rintro e' u' w'' ⟨rfl, rfl, rfl⟩
      have hd := get_done m1 m2
      exact ⟨_, hd _ rfl rfl, _, rfl, hr6.mono (fun k _ h => by omega), hb6⟩
    | cons x rest =>
      have hG := HG.out
      rw [getV_more hl HP.out] at hG
      subst hG
      have hdr : ((rest.length : Int) + 1 == 0) = false := by simp; omega
      go_wp2_with fail
      have hs3 := HS.out
      obtain ⟨k1, k2⟩ := heap_five (d0 := .int .i64 k) (d1 := .int .u64 n) (d2 := .slice AB b.length cb) (d3 := .slice AL l.length cl) (d4 := .slice AF f.length cf) HB'.out HQ'.out (by omega)
      have hb5 := below_five HBW.out (Nat.le_refl _) (.int .i64 k) (.int .u64 n) (.slice AB b.length cb) (.slice AL l.length cl) (.slice AF f.length cf)
      refine (must_no _ _).mono ?_
      rintro e w4 ⟨rfl, rfl⟩
      exact HCAUGHT.out 4 _ _ _ _ _ _ _ hb5 k1 k2 rfl rfl
/-- What Get ends in, its rows' types left out. -/
def Gets (w : World) (g : V × Int) (e : Ending) (w' : World) : Prop :=
  ∃ cs, e = .returned (.tuple #[.agg cs.toArray, .int .i64 g.2]) ∧ Rep w' (fun k => w.heap.size ≤ k) g.1 cs ∧ Below w.heap.size w w'
theorem get_any (hV : ValidC) (hN : NameC) (bs : List UInt8) (w : World) (S : Nat → Prop) (A : Option Addr) (c : Nat) (hA : BRow w S A bs) (hS : ∀ k, S k → k < w.heap.size) (hc : bs.length ≤ c) (hc2 : c ≤ 9223372036854775807) (hT : Tabs w) :
    Calls Tryd.prog 14 #[.slice A bs.length c] w (Gets w (getV bs)) :=
  (get_anyT hV hN bs w S A c hA hS hc hc2 hT).mono fun e w' ⟨cs, h1, h2, h3⟩ => ⟨cs, h1, h2.rep, h3⟩
end Go.Proofs.YtljdfainnmpjnaaDoor

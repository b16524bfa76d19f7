/- The reference's reader of values. -/
import Derived.Test.YtljdfainnmpjnaaDoorStepCall
import Derived.Test.YtljdfainnmpjnaaDoorFlds
import Derived.Test.YtljdfainnmpjnaaDoorGet
set_option linter.unusedVariables false
namespace Go.Proofs.YtljdfainnmpjnaaDoor
open Go.RowKit

/-- What the reference's reader ends in: g: the reading of what lies behind a place; bs: all bytes. -/
def RTells (w : World) (bs : List UInt8) (g : Got) (e : Ending) (w' : World) : Prop :=
  match g with
  | .error c => e = .returned (.tuple #[.agg vzero, .int .i64 0, .int .i64 c]) ∧ Below w.heap.size w w'
  | .ok (v, rest) => ∃ cs, ∃ at' : Nat, e = .returned (.tuple #[.agg cs.toArray, .int .i64 at', .int .i64 0]) ∧ Rep w' (fun k => w.heap.size ≤ k) v cs ∧ Below w.heap.size w w' ∧ at' ≤ bs.length ∧ rest = bs.drop at'
theorem RTells.no {w w' : World} {bs : List UInt8} {c : Int} (h : Below w.heap.size w w') : RTells w bs (.error c) (.returned (.tuple #[.agg vzero, .int .i64 0, .int .i64 c])) w' := ⟨rfl, h⟩
theorem RTells.yes {w w' : World} {bs rest : List UInt8} {v : V} {cs : List Value} {n : Nat} (h : Rep w' (fun k => w.heap.size ≤ k) v cs) (hb : Below w.heap.size w w') (hn : n ≤ bs.length) (hr : rest = bs.drop n) :
    RTells w bs (.ok (v, rest)) (.returned (.tuple #[.agg cs.toArray, .int .i64 (n : Int), .int .i64 0])) w' := ⟨cs, n, rfl, h, hb, hn, hr⟩

/-- The state of the walk: the result's block, the zero value's, the value's. -/
structure GS (w : World) (cs : Array Value) (W : World) : Prop where
  below : Below w.heap.size w W
  b6 : W.heap[w.heap.size]? = some (.cells vzero 27 (0, 0))
  b9 : W.heap[w.heap.size + 1]? = some (.cells vzero 27 (0, 0))
  blk : W.heap[w.heap.size + 1 + 1]? = some (.cells cs 27 (0, 0))
theorem GS.lt {w W : World} {cs : Array Value} (h : GS w cs W) : w.heap.size + 1 + 1 < W.heap.size := (Array.getElem?_eq_some_iff.1 h.blk).1
theorem GS.start (w : World) (cs : Array Value) : GS w cs (((w.alloc (.cells vzero 27)).alloc (.cells vzero 27)).alloc (.cells cs 27)) := by
  have h1 : (w.alloc (.cells vzero 27)).heap.size = w.heap.size + 1 := by simp
  have h2 : ((w.alloc (.cells vzero 27)).alloc (.cells vzero 27)).heap.size = w.heap.size + 1 + 1 := by simp
  have b1 : Below w.heap.size w (w.alloc (.cells vzero 27)) := (Below.refl _ _).alloc (Nat.le_refl _) _
  have b2 : Below (w.alloc (.cells vzero 27)).heap.size (w.alloc (.cells vzero 27)) ((w.alloc (.cells vzero 27)).alloc (.cells vzero 27)) := (Below.refl _ _).alloc (Nat.le_refl _) _
  have b3 : Below ((w.alloc (.cells vzero 27)).alloc (.cells vzero 27)).heap.size ((w.alloc (.cells vzero 27)).alloc (.cells vzero 27)) (((w.alloc (.cells vzero 27)).alloc (.cells vzero 27)).alloc (.cells cs 27)) := (Below.refl _ _).alloc (Nat.le_refl _) _
  refine ⟨(b1.trans (b2.mono (by omega))).trans (b3.mono (by omega)), ?_, ?_, ?_⟩
  · rw [b3.block _ (by omega), b2.block _ (by omega)]; exact heap_alloc_new w _
  · rw [b3.block _ (by omega), ← h1]; exact heap_alloc_new _ _
  · rw [← h2]; exact heap_alloc_new _ _
theorem GS.call {w W W' : World} {cs : Array Value} (h : GS w cs W) (hb : Below W.heap.size W W') : GS w cs W' := by
  have := h.lt
  exact ⟨below_step h.below (by omega) hb, by rw [hb.block _ (by omega)]; exact h.b6, by rw [hb.block _ (by omega)]; exact h.b9, by rw [hb.block _ (by omega)]; exact h.blk⟩
theorem GS.app {w W W' : World} {cs : Array Value} {row : Option Nat} (h : GS w cs W) (hg : W.grownBy W' row) (hr : ∀ k, row = some k → w.heap.size + 1 + 1 < k) : GS w cs W' := by
  have hl := h.lt
  have ne : ∀ k, k ≤ w.heap.size + 1 + 1 → some k ≠ row := fun k hk e => by have := hr k e.symm; omega
  exact ⟨h.below.trans (below_of_grown hg _ (by omega) (fun k hk => by have := hr k hk; omega)), by rw [hg.block _ (by omega) (ne _ (by omega))]; exact h.b6, by rw [hg.block _ (by omega) (ne _ (by omega))]; exact h.b9, by rw [hg.block _ (by omega) (ne _ (by omega))]; exact h.blk⟩
theorem GS.set {w W : World} {cs : Array Value} (h : GS w cs W) (j : Nat) (v : Value) : GS w (cs.setIfInBounds j v) (W.setCell ⟨w.heap.size + 1 + 1, j, none⟩ v) := by
  refine ⟨?_, ?_, ?_, ?_⟩
  · exact ⟨h.below.os, h.below.tape, h.below.output, by simpa [World.setCell] using h.below.size, fun i hi => by rw [Below.heap_setCell _ _ _ _ (by simp only; omega)]; exact h.below.block i hi⟩
  · rw [Below.heap_setCell _ _ _ _ (by simp only; omega)]; exact h.b6
  · rw [Below.heap_setCell _ _ _ _ (by simp only; omega)]; exact h.b9
  · simp [World.setCell, Array.getElem?_modify, h.blk]
theorem GS.cell {w W : World} {cs : Array Value} (h : GS w cs W) (j : Nat) : W.cell? ⟨w.heap.size + 1 + 1, j, none⟩ = cs[j]? := cell_blk h.blk j
theorem GS.free {w W : World} {cs : Array Value} (h : GS w cs W) (j : Nat) : W.frozen? ⟨w.heap.size + 1 + 1, j, none⟩ = false := frozen_blk h.blk j
theorem GS.c6 {w W : World} {cs : Array Value} (h : GS w cs W) (j : Nat) : W.cell? ⟨w.heap.size, j, none⟩ = vzero[j]? := cell_blk h.b6 j
theorem GS.f6 {w W : World} {cs : Array Value} (h : GS w cs W) (j : Nat) : W.frozen? ⟨w.heap.size, j, none⟩ = false := frozen_blk h.b6 j
theorem GS.c9 {w W : World} {cs : Array Value} (h : GS w cs W) (j : Nat) : W.cell? ⟨w.heap.size + 1, j, none⟩ = vzero[j]? := cell_blk h.b9 j
/-- The result's five cells, written. -/
abbrev fill (W : World) (b : Nat) (c0 c1 c2 c3 c4 : Value) : World := ((((W.setCell ⟨b, 0, none⟩ c0).setCell ⟨b, 1, none⟩ c1).setCell ⟨b, 2, none⟩ c2).setCell ⟨b, 3, none⟩ c3).setCell ⟨b, 4, none⟩ c4
theorem fill_blk {W : World} {b : Nat} {T : TypeId} {x0 x1 x2 x3 x4 : Value} (h : W.heap[b]? = some (.cells #[x0, x1, x2, x3, x4] T (0, 0))) (c0 c1 c2 c3 c4 : Value) : (fill W b c0 c1 c2 c3 c4).heap[b]? = some (.cells #[c0, c1, c2, c3, c4] T (0, 0)) := by
  simp [fill, World.setCell, Array.getElem?_modify, h]
/-- What the walk's end tells. -/
theorem ref_done {W : World} {b : Nat} {c0 c1 c2 c3 c4 x y : Value} (hb : W.heap[b]? = some (.cells #[c0, c1, c2, c3, c4] 27 (0, 0))) (tmps : Array Value) (h6 : tmps[6]?.getD undef = .pointer (some ⟨b, 0, none⟩)) (h7 : tmps[7]?.getD undef = x) (h8 : tmps[8]?.getD undef = y) :
    (results Tryd.f43 tmps).run Tryd.prog W = .ok (.tuple #[.agg #[c0, c1, c2, c3, c4], x, y]) W := by
  have d0 : W.cell? ⟨b, 0, none⟩ = some c0 := cell_blk hb 0
  have d1 : W.cell? ⟨b, 1, none⟩ = some c1 := cell_blk hb 1
  have d2 : W.cell? ⟨b, 2, none⟩ = some c2 := cell_blk hb 2
  have d3 : W.cell? ⟨b, 3, none⟩ = some c3 := cell_blk hb 3
  have d4 : W.cell? ⟨b, 4, none⟩ = some c4 := cell_blk hb 4
  simp [results, Tryd.results43, go_sem, h6, h7, h8, d0, d1, d2, d3, d4]
/-- The end with a fault. -/
theorem GS.bad {w W : World} {cs : Array Value} (h : GS w cs W) (bs : List UInt8) (c : Int) (tmps : Array Value) (h6 : tmps[6]?.getD undef = .pointer (some ⟨w.heap.size, 0, none⟩)) (h7 : tmps[7]?.getD undef = .int .i64 0) (h8 : tmps[8]?.getD undef = .int .i64 c) :
    bodyPost Tryd.prog Tryd.f43 (RTells w bs (.error c)) .ret { tmps := tmps, defers := [] } (fill W w.heap.size (.int .i64 0) (.int .u64 0) (.slice none 0 0) (.slice none 0 0) (.slice none 0 0)) := by
  refine bodyPost_ret (ref_done (fill_blk h.b6 _ _ _ _ _) tmps h6 h7 h8) rfl ?_
  exact RTells.no (below_five h.below (Nat.le_refl _) _ _ _ _ _)
/-- The end with a value. -/
theorem GS.good {w W : World} {c0 c1 c2 c3 c4 : Value} (h : GS w #[c0, c1, c2, c3, c4] W) (bs rest : List UInt8) (v : V) (n : Nat) (hr : Rep W (fun k => w.heap.size + 1 + 1 < k) v [c0, c1, c2, c3, c4]) (hn : n ≤ bs.length) (hrest : rest = bs.drop n)
    (tmps : Array Value) (h6 : tmps[6]?.getD undef = .pointer (some ⟨w.heap.size, 0, none⟩)) (h7 : tmps[7]?.getD undef = .int .i64 n) (h8 : tmps[8]?.getD undef = .int .i64 0) :
    bodyPost Tryd.prog Tryd.f43 (RTells w bs (.ok (v, rest))) .ret { tmps := tmps, defers := [] } (fill W w.heap.size c0 c1 c2 c3 c4) := by
  refine bodyPost_ret (ref_done (fill_blk h.b6 _ _ _ _ _) tmps h6 h7 h8) rfl ?_
  exact RTells.yes (cs := [c0, c1, c2, c3, c4]) ((rep_again hr (b := w.heap.size) (by omega) c0 c1 c2 c3 c4).mono fun k _ hk => by omega) (below_five h.below (Nat.le_refl _) _ _ _ _ _) hn hrest
end Go.Proofs.YtljdfainnmpjnaaDoor

/- Rows of fields, and the set of names met. -/
import Derived.Test.YtljdfainnmpjnaaDoorItems
import Derived.Maps.OwnSet
set_option linter.unusedVariables false
namespace Go.Proofs.YtljdfainnmpjnaaDoor
open Go.RowKit

theorem zero89 (w : World) : (zeroValue 89).run Tryd.prog w = .ok (.agg #[]) w := by kernel_rfl
theorem keyed9 : Maps.Keyed Tryd.prog 9 := Maps.string_keyed Tryd.underlying9

/-- Block m holds the set of names met. -/
def Met (W : World) (m : Nat) (met : List ByteArray) : Prop :=
  ∃ D : DataW Unit, W.ownsMap Tryd.prog 9 unitElem m met.length D ∧ ∀ s : ByteArray, Maps.has D (.string s.data.toList) = true ↔ s ∈ met
theorem Met.kept {W W' : World} {m : Nat} {met : List ByteArray} {row : Option Nat} (h : Met W m met) (hg : W.grownBy W' row) (hne : some m ≠ row) : Met W' m met := by
  obtain ⟨D, h1, h2⟩ := h
  exact ⟨D, h1.kept hg hne, h2⟩
theorem Met.below {W W' : World} {m : Nat} {met : List ByteArray} (h : Met W m met) (hb : Below W.heap.size W W') : Met W' m met := h.kept (grown_of_below hb none) (by simp)
theorem Met.lt {W : World} {m : Nat} {met : List ByteArray} (h : Met W m met) : m < W.heap.size := by
  obtain ⟨D, h1, h2⟩ := h
  exact h1.lt
theorem Met.start (W : World) : Met (W.alloc (.map #[] 0)) W.heap.size [] := ⟨.map [], World.ownsMap_made W _ _ _, fun s => by simp [Maps.has]⟩
theorem bytes_inj {s t : ByteArray} (h : s.data.toList = t.data.toList) : s = t := by
  obtain ⟨⟨x⟩⟩ := s; obtain ⟨⟨y⟩⟩ := t; simpa using h
theorem has_put {D : DataW Unit} {d : DataW Unit} {met : List ByteArray} (hD : Maps.IsMap D) (h2 : ∀ s : ByteArray, Maps.has D (.string s.data.toList) = true ↔ s ∈ met) (s : ByteArray) :
    ∀ t : ByteArray, Maps.has (D.put (.string s.data.toList) d) (.string t.data.toList) = true ↔ t ∈ s :: met := by
  intro t
  by_cases e : t = s
  · subst e
    have := Maps.has_put_same hD (k := .string t.data.toList) trivial d
    simp [this]
  · have := Maps.has_put_other (D := D) (k := .string s.data.toList) (k' := .string t.data.toList) (fun h => e (bytes_inj (by injection h))) d
    rw [this, h2 t]
    simp [e]

/-- The row v of fields, in a block of its own behind block b and beside block m. -/
structure Flds (W : World) (b m : Nat) (v : Value) (fs : List (ByteArray × V)) (css : List (List Value)) : Prop where
  own : W.ownsRow (b + 1) 59 6 v fs.length css.flatten
  len : css.length = fs.length
  rep : ∀ j (h : j < fs.length), ∃ d, css.getD j [] = .string (fs[j]).1 :: d ∧ (fs[j]).1.size ≤ 281474976710656 ∧ Rep W (fun k => (b < k ∧ k ≠ m) ∧ some k ≠ v.ownBlock) (fs[j]).2 d
  low : b < W.heap.size
  ne : v.ownBlock ≠ some m
theorem Flds.kept {W W' : World} {b m : Nat} {v : Value} {fs : List (ByteArray × V)} {css : List (List Value)} {row : Option Nat} (h : Flds W b m v fs css) (hg : W.grownBy W' row) (hb : ∀ k, row = some k → k ≤ b ∨ k = m) : Flds W' b m v fs css := by
  refine ⟨World.ownsRow.kept h.own hg ?_, h.len, fun j hj => ?_, Nat.lt_of_lt_of_le h.low hg.size, h.ne⟩
  · rcases hv : v.ownBlock with _ | k
    · exact .inl rfl
    · refine .inr fun e => ?_
      have h1 := (World.ownsRow.lt h.own k hv).1
      rcases hb k e.symm with h2 | rfl
      · omega
      · exact h.ne hv
  · obtain ⟨d, h1, h2, h3⟩ := h.rep j hj
    refine ⟨d, h1, h2, h3.kept (Keeps.of_grown hg _ (fun k e hS => ?_))⟩
    rcases hb k e with h4 | h4
    · have := hS.1.1; omega
    · exact hS.1.2 h4
theorem Flds.below {W W' : World} {b m : Nat} {v : Value} {fs : List (ByteArray × V)} {css : List (List Value)} (h : Flds W b m v fs css) (hb : Below W.heap.size W W') : Flds W' b m v fs css := h.kept (grown_of_below hb none) (fun k e => by cases e)
theorem Flds.css6 {W : World} {b m : Nat} {v : Value} {fs : List (ByteArray × V)} {css : List (List Value)} (h : Flds W b m v fs css) : ∀ c ∈ css, c.length = 6 := by
  intro c hc
  obtain ⟨j, hj, rfl⟩ := List.mem_iff_getElem.1 hc
  obtain ⟨d, h1, h2, h3⟩ := h.rep j (by rw [← h.len]; exact hj)
  obtain ⟨c0, c1, c2, c3, c4, rfl, -⟩ := h3.five
  have : css.getD j [] = css[j] := by simp [hj]
  rw [← this, h1]; rfl
theorem Flds.push {W W' : World} {b m : Nat} {v v' : Value} {fs : List (ByteArray × V)} {css : List (List Value)} (h : Flds W b m v fs css) {s : ByteArray} {x : V} {cs : List Value} (hs : s.size ≤ 281474976710656)
    (hx : Rep W (fun k => (b < k ∧ k ≠ m) ∧ some k ≠ v.ownBlock) x cs) (hm : m < W.heap.size)
    (ho : W'.ownsRow (b + 1) 59 6 v' (fs.length + 1) (css.flatten ++ (.string s :: cs))) (hg : W.grownBy W' v.ownBlock) (hv : v'.ownBlock = v.ownBlock ∨ v'.ownBlock = some W.heap.size) : Flds W' b m v' (fs ++ [(s, x)]) (css ++ [.string s :: cs]) := by
  have key : ∀ {y : V} {ds : List Value}, Rep W (fun k => (b < k ∧ k ≠ m) ∧ some k ≠ v.ownBlock) y ds → Rep W' (fun k => (b < k ∧ k ≠ m) ∧ some k ≠ v'.ownBlock) y ds := by
    intro y ds hy
    have h1 : Rep W (fun k => ((b < k ∧ k ≠ m) ∧ some k ≠ v.ownBlock) ∧ some k ≠ v'.ownBlock) y ds := hy.mono fun k hk hS => ⟨hS, by
      rcases hv with hv | hv
      · rw [hv]; exact hS.2
      · rw [hv]; intro e; cases e; exact Nat.lt_irrefl _ hk⟩
    exact (h1.kept (Keeps.of_grown hg _ (fun k e hS => hS.1.2 e.symm))).mono fun k _ hS => ⟨hS.1.1, hS.2⟩
  refine ⟨?_, by simp [h.len], fun j hj => ?_, Nat.lt_of_lt_of_le h.low hg.size, ?_⟩
  · rw [List.length_append, List.flatten_append]; simpa using ho
  · by_cases hj' : j < fs.length
    · rw [List.getElem_append_left hj', List.getD_eq_getElem?_getD, List.getElem?_append_left (by rw [h.len]; exact hj'), ← List.getD_eq_getElem?_getD]
      obtain ⟨d, h1, h2, h3⟩ := h.rep j hj'
      exact ⟨d, h1, h2, key h3⟩
    · have e : j = fs.length := by simp at hj; omega
      subst e
      have e2 : (css ++ [.string s :: cs]).getD fs.length [] = .string s :: cs := by rw [← h.len]; simp
      rw [e2]
      refine ⟨cs, ?_, ?_, ?_⟩
      · simp
      · simpa using hs
      · simpa using key hx
  · rcases hv with hv | hv
    · rw [hv]; exact h.ne
    · rw [hv]; intro e; cases e; exact Nat.lt_irrefl _ hm
theorem Flds.start {W : World} {b m : Nat} {v : Value} (ho : W.ownsRow (b + 1) 59 6 v 0 []) (hb : b < W.heap.size) (hm : v.ownBlock ≠ some m) : Flds W b m v [] [] := ⟨by simpa using ho, rfl, fun j hj => absurd hj (by simp), hb, hm⟩
theorem Flds.done {W : World} {b m : Nat} {v : Value} {fs : List (ByteArray × V)} {css : List (List Value)} (h : Flds W b m v fs css) (hl : fs.length ≤ 64) :
    Rep W (fun k => b < k) (.mk 8 0 [] [] fs) [.int .i64 8, .int .u64 0, .slice none 0 0, .slice none 0 0, v] := by
  have h6 := h.css6
  obtain ⟨A, c, rfl, hc, hm, hr⟩ := own_row h.own (fun j => css.getD j []) (fun i hi => ⟨by
      obtain ⟨d, h1, h2, h3⟩ := h.rep i hi
      obtain ⟨c0, c1, c2, c3, c4, rfl, -⟩ := h3.five
      rw [h1]; rfl, fun j hj => flat_get 6 css h6 i (by rw [h.len]; exact hi) j hj⟩) (fun k => b < k) (fun k hk => by have := (World.ownsRow.lt h.own k hk).1; omega)
  refine .mk 8 0 [] [] fs none none A 0 0 c (fun _ => []) (fun j => (css.getD j []).tail) (by omega) (by omega) len0 (Row.nil _ _ _ _ _) len0 (Row.nil _ _ _ _ _) (by simp) ⟨hc, by omega, hm⟩ (hr.congr fun i hi => ?_) (fun j hj => ?_) (fun j hj => ?_)
  · obtain ⟨d, h1, h2, h3⟩ := h.rep i hi
    rw [h1, getD_at hi]; rfl
  · obtain ⟨d, h1, h2, h3⟩ := h.rep j hj
    rw [h1]
    exact h3.mono fun k _ hS => hS.1.1
  · obtain ⟨d, h1, h2, h3⟩ := h.rep j hj
    exact h2
end Go.Proofs.YtljdfainnmpjnaaDoor

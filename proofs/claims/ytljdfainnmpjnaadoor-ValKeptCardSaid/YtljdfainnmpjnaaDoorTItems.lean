/- Rows that the program's reader of values makes, each in a block of its own type. -/
import Derived.Test.YtljdfainnmpjnaaDoorFlds
import Derived.Test.YtljdfainnmpjnaaDoorTyped
set_option linter.unusedVariables false
namespace Go.Proofs.YtljdfainnmpjnaaDoor
open Go.RowKit

theorem trep_atom {w : World} {S : Nat → Prop} {k n : Int} (hk : -9223372036854775808 ≤ k ∧ k ≤ 9223372036854775807) (hn : 0 ≤ n ∧ n ≤ 18446744073709551615) : TRep w S (.mk k n [] [] []) [.int .i64 k, .int .u64 n, .slice none 0 0, .slice none 0 0, .slice none 0 0] :=
  .mk k n [] [] [] none none none 0 0 0 (fun _ => []) (fun _ => []) hk hn len0 (TRow.nil _ _ _ _ _ _) len0 (TRow.nil _ _ _ _ _ _) (by simp) len0 (TRow.nil _ _ _ _ _ _) (by simp) (by simp)
theorem trep_bytes {w : World} {S : Nat → Prop} {k n : Int} {b : List UInt8} {A : Option Addr} {c : Nat} (hk : -9223372036854775808 ≤ k ∧ k ≤ 9223372036854775807) (hn : 0 ≤ n ∧ n ≤ 18446744073709551615) (hl : Len b.length c) (hb : TBRow w S A b) :
    TRep w S (.mk k n b [] []) [.int .i64 k, .int .u64 n, .slice A b.length c, .slice none 0 0, .slice none 0 0] :=
  .mk k n b [] [] A none none c 0 0 (fun _ => []) (fun _ => []) hk hn hl hb len0 (TRow.nil _ _ _ _ _ _) (by simp) len0 (TRow.nil _ _ _ _ _ _) (by simp) (by simp)
theorem trep_again {W : World} {S : Nat → Prop} {b : Nat} {v : V} {cs : List Value} (h : TRep W S v cs) (hb : ¬ S b) (c0 c1 c2 c3 c4 : Value) :
    TRep (((((W.setCell ⟨b, 0, none⟩ c0).setCell ⟨b, 1, none⟩ c1).setCell ⟨b, 2, none⟩ c2).setCell ⟨b, 3, none⟩ c3).setCell ⟨b, 4, none⟩ c4) S v cs :=
  ((((h.kept (.set hb _ _)).kept (.set hb _ _)).kept (.set hb _ _)).kept (.set hb _ _)).kept (.set hb _ _)

/-- What the reader of a value ends in. -/
def TellsT (w : World) (S : Nat → Prop) (r : Nat) (g : Got) (e : Ending) (w' : World) : Prop :=
  match g with
  | .ok (v, bs) => ∃ cs, e = .returned (.agg cs.toArray) ∧ TRep w' (fun k => w.heap.size ≤ k) v cs ∧ Reads w' S r bs ∧ w.grownBy w' (some r)
  | .error c => e = thrown c ∧ w.grownBy w' (some r)
theorem TellsT.no {w w' : World} {S : Nat → Prop} {r : Nat} {c : Int} (h : w.grownBy w' (some r)) : TellsT w S r (.error c) (thrown c) w' := ⟨rfl, h⟩
theorem TellsT.yes {w w' : World} {S : Nat → Prop} {r : Nat} {v : V} {bs : List UInt8} {cs : List Value} (h : TRep w' (fun k => w.heap.size ≤ k) v cs) (hr : Reads w' S r bs) (hg : w.grownBy w' (some r)) :
    TellsT w S r (.ok (v, bs)) (.returned (.agg cs.toArray)) w' := ⟨cs, rfl, h, hr, hg⟩
/-- The row v of values, in a block of its own behind block b. -/
structure TItems (W : World) (b : Nat) (v : Value) (vs : List V) (css : List (List Value)) : Prop where
  own : W.ownsRow (b + 1) 27 5 v vs.length css.flatten
  len : css.length = vs.length
  rep : ∀ j (h : j < vs.length), TRep W (fun k => b < k ∧ some k ≠ v.ownBlock) vs[j] (css.getD j [])
  low : b < W.heap.size
theorem TItems.kept {W W' : World} {b : Nat} {v : Value} {vs : List V} {css : List (List Value)} {row : Option Nat} (h : TItems W b v vs css) (hg : W.grownBy W' row) (hb : ∀ k, row = some k → k ≤ b) : TItems W' b v vs css :=
  ⟨World.ownsRow.kept h.own hg (by
    rcases hv : v.ownBlock with _ | k
    · exact .inl rfl
    · exact .inr fun e => by have := hb k e.symm; have := (World.ownsRow.lt h.own k hv).1; omega), h.len,
   fun j hj => (h.rep j hj).kept (Keeps.of_grown hg _ (fun k e hS => by have := hb k e; have := hS.1; omega)), Nat.lt_of_lt_of_le h.low hg.size⟩
theorem TItems.below {W W' : World} {b : Nat} {v : Value} {vs : List V} {css : List (List Value)} (h : TItems W b v vs css) (hb : Below W.heap.size W W') : TItems W' b v vs css := h.kept (grown_of_below hb none) (fun k e => by cases e)
theorem TItems.css5 {W : World} {b : Nat} {v : Value} {vs : List V} {css : List (List Value)} (h : TItems W b v vs css) : ∀ c ∈ css, c.length = 5 := by
  intro c hc
  obtain ⟨j, hj, rfl⟩ := List.mem_iff_getElem.1 hc
  obtain ⟨c0, c1, c2, c3, c4, e, -⟩ := (h.rep j (by rw [← h.len]; exact hj)).five
  have : css.getD j [] = css[j] := by simp [hj]
  rw [← this, e]; rfl
/-- One value more. -/
theorem TItems.push {W W' : World} {b : Nat} {v v' : Value} {vs : List V} {css : List (List Value)} (h : TItems W b v vs css) {x : V} {cs : List Value} (hx : TRep W (fun k => b < k ∧ some k ≠ v.ownBlock) x cs)
    (ho : W'.ownsRow (b + 1) 27 5 v' (vs.length + 1) (css.flatten ++ cs)) (hg : W.grownBy W' v.ownBlock) (hv : v'.ownBlock = v.ownBlock ∨ v'.ownBlock = some W.heap.size) : TItems W' b v' (vs ++ [x]) (css ++ [cs]) := by
  have key : ∀ {y : V} {ds : List Value}, TRep W (fun k => b < k ∧ some k ≠ v.ownBlock) y ds → TRep W' (fun k => b < k ∧ some k ≠ v'.ownBlock) y ds := by
    intro y ds hy
    have h1 : TRep W (fun k => (b < k ∧ some k ≠ v.ownBlock) ∧ some k ≠ v'.ownBlock) y ds := hy.mono fun k hk hS => ⟨hS, by
      rcases hv with hv | hv
      · rw [hv]; exact hS.2
      · rw [hv]; intro e; cases e; exact Nat.lt_irrefl _ hk⟩
    exact (h1.kept (Keeps.of_grown hg _ (fun k e hS => hS.1.2 e.symm))).mono fun k _ hS => ⟨hS.1.1, hS.2⟩
  refine ⟨?_, by simp [h.len], fun j hj => ?_, Nat.lt_of_lt_of_le h.low hg.size⟩
  · rw [List.length_append, List.flatten_append]; simpa using ho
  · by_cases hj' : j < vs.length
    · rw [List.getElem_append_left hj', List.getD_eq_getElem?_getD, List.getElem?_append_left (by rw [h.len]; exact hj'), ← List.getD_eq_getElem?_getD]
      exact key (h.rep j hj')
    · have e : j = vs.length := by simp at hj; omega
      subst e
      have e2 : (css ++ [cs]).getD vs.length [] = cs := by rw [← h.len]; simp
      rw [e2]
      simpa using key hx
theorem TItems.start {W : World} {b : Nat} {v : Value} (ho : W.ownsRow (b + 1) 27 5 v 0 []) (hb : b < W.heap.size) : TItems W b v [] [] := ⟨by simpa using ho, rfl, fun j hj => absurd hj (by simp), hb⟩
/-- The value that the row makes. -/
theorem TItems.done {W : World} {b : Nat} {v : Value} {vs : List V} {css : List (List Value)} (h : TItems W b v vs css) (hl : vs.length ≤ 64) :
    TRep W (fun k => b < k) (.mk 7 0 [] vs []) [.int .i64 7, .int .u64 0, .slice none 0 0, v, .slice none 0 0] := by
  have h5 := h.css5
  obtain ⟨A, c, rfl, hc, hm, hr⟩ := own_trow h.own (fun j => css.getD j []) (fun i hi => ⟨by
      obtain ⟨c0, c1, c2, c3, c4, e, -⟩ := (h.rep i hi).five
      rw [e]; rfl, fun j hj => flat_get 5 css h5 i (by rw [h.len]; exact hi) j hj⟩) (fun k => b < k) (fun k hk => by have := (World.ownsRow.lt h.own k hk).1; omega)
  exact .mk 7 0 [] vs [] none A none 0 c 0 (fun j => css.getD j []) (fun _ => []) (by omega) (by omega) len0 (TRow.nil _ _ _ _ _ _) ⟨hc, by omega, hm⟩ hr (fun j hj => (h.rep j hj).mono fun k _ hS => hS.1) len0 (TRow.nil _ _ _ _ _ _) (by simp) (by simp)

/-- The row v of fields, in a block of its own behind block b and beside block m. -/
structure TFlds (W : World) (b m : Nat) (v : Value) (fs : List (ByteArray × V)) (css : List (List Value)) : Prop where
  own : W.ownsRow (b + 1) 59 6 v fs.length css.flatten
  len : css.length = fs.length
  rep : ∀ j (h : j < fs.length), ∃ d, css.getD j [] = .string (fs[j]).1 :: d ∧ (fs[j]).1.size ≤ 281474976710656 ∧ TRep W (fun k => (b < k ∧ k ≠ m) ∧ some k ≠ v.ownBlock) (fs[j]).2 d
  low : b < W.heap.size
  ne : v.ownBlock ≠ some m
theorem TFlds.kept {W W' : World} {b m : Nat} {v : Value} {fs : List (ByteArray × V)} {css : List (List Value)} {row : Option Nat} (h : TFlds W b m v fs css) (hg : W.grownBy W' row) (hb : ∀ k, row = some k → k ≤ b ∨ k = m) : TFlds W' b m v fs css := by
  refine ⟨World.ownsRow.kept h.own hg ?_, h.len, fun j hj => ?_, Nat.lt_of_lt_of_le h.low hg.size, h.ne⟩
  · rcases hv : v.ownBlock with _ | k
    · exact .inl rfl
    · refine .inr fun e => ?_
      have h1 := (World.ownsRow.lt h.own k hv).1
      rcases hb k e.symm with h2 | rfl
      · omega
      · exact h.ne hv
  · obtain ⟨d, h1, h2, h3⟩ := h.rep j hj
    refine ⟨d, h1, h2, h3.kept (Keeps.of_grown hg _ (fun k e hS => ?_))⟩
    rcases hb k e with h4 | h4
    · have := hS.1.1; omega
    · exact hS.1.2 h4
theorem TFlds.below {W W' : World} {b m : Nat} {v : Value} {fs : List (ByteArray × V)} {css : List (List Value)} (h : TFlds W b m v fs css) (hb : Below W.heap.size W W') : TFlds W' b m v fs css := h.kept (grown_of_below hb none) (fun k e => by cases e)
theorem TFlds.css6 {W : World} {b m : Nat} {v : Value} {fs : List (ByteArray × V)} {css : List (List Value)} (h : TFlds W b m v fs css) : ∀ c ∈ css, c.length = 6 := by
  intro c hc
  obtain ⟨j, hj, rfl⟩ := List.mem_iff_getElem.1 hc
  obtain ⟨d, h1, h2, h3⟩ := h.rep j (by rw [← h.len]; exact hj)
  obtain ⟨c0, c1, c2, c3, c4, rfl, -⟩ := h3.five
  have : css.getD j [] = css[j] := by simp [hj]
  rw [← this, h1]; rfl
theorem TFlds.push {W W' : World} {b m : Nat} {v v' : Value} {fs : List (ByteArray × V)} {css : List (List Value)} (h : TFlds W b m v fs css) {s : ByteArray} {x : V} {cs : List Value} (hs : s.size ≤ 281474976710656)
    (hx : TRep W (fun k => (b < k ∧ k ≠ m) ∧ some k ≠ v.ownBlock) x cs) (hm : m < W.heap.size)
    (ho : W'.ownsRow (b + 1) 59 6 v' (fs.length + 1) (css.flatten ++ (.string s :: cs))) (hg : W.grownBy W' v.ownBlock) (hv : v'.ownBlock = v.ownBlock ∨ v'.ownBlock = some W.heap.size) : TFlds W' b m v' (fs ++ [(s, x)]) (css ++ [.string s :: cs]) := by
  have key : ∀ {y : V} {ds : List Value}, TRep W (fun k => (b < k ∧ k ≠ m) ∧ some k ≠ v.ownBlock) y ds → TRep W' (fun k => (b < k ∧ k ≠ m) ∧ some k ≠ v'.ownBlock) y ds := by
    intro y ds hy
    have h1 : TRep W (fun k => ((b < k ∧ k ≠ m) ∧ some k ≠ v.ownBlock) ∧ some k ≠ v'.ownBlock) y ds := hy.mono fun k hk hS => ⟨hS, by
      rcases hv with hv | hv
      · rw [hv]; exact hS.2
      · rw [hv]; intro e; cases e; exact Nat.lt_irrefl _ hk⟩
    exact (h1.kept (Keeps.of_grown hg _ (fun k e hS => hS.1.2 e.symm))).mono fun k _ hS => ⟨hS.1.1, hS.2⟩
  refine ⟨?_, by simp [h.len], fun j hj => ?_, Nat.lt_of_lt_of_le h.low hg.size, ?_⟩
  · rw [List.length_append, List.flatten_append]; simpa using ho
  · by_cases hj' : j < fs.length
    · rw [List.getElem_append_left hj', List.getD_eq_getElem?_getD, List.getElem?_append_left (by rw [h.len]; exact hj'), ← List.getD_eq_getElem?_getD]
      obtain ⟨d, h1, h2, h3⟩ := h.rep j hj'
      exact ⟨d, h1, h2, key h3⟩
    · have e : j = fs.length := by simp at hj; omega
      subst e
      have e2 : (css ++ [.string s :: cs]).getD fs.length [] = .string s :: cs := by rw [← h.len]; simp
      rw [e2]
      refine ⟨cs, ?_, ?_, ?_⟩
      · simp
      · simpa using hs
      · simpa using key hx
  · rcases hv with hv | hv
    · rw [hv]; exact h.ne
    · rw [hv]; intro e; cases e; exact Nat.lt_irrefl _ hm
theorem TFlds.start {W : World} {b m : Nat} {v : Value} (ho : W.ownsRow (b + 1) 59 6 v 0 []) (hb : b < W.heap.size) (hm : v.ownBlock ≠ some m) : TFlds W b m v [] [] := ⟨by simpa using ho, rfl, fun j hj => absurd hj (by simp), hb, hm⟩
theorem TFlds.done {W : World} {b m : Nat} {v : Value} {fs : List (ByteArray × V)} {css : List (List Value)} (h : TFlds W b m v fs css) (hl : fs.length ≤ 64) :
    TRep W (fun k => b < k) (.mk 8 0 [] [] fs) [.int .i64 8, .int .u64 0, .slice none 0 0, .slice none 0 0, v] := by
  have h6 := h.css6
  obtain ⟨A, c, rfl, hc, hm, hr⟩ := own_trow h.own (fun j => css.getD j []) (fun i hi => ⟨by
      obtain ⟨d, h1, h2, h3⟩ := h.rep i hi
      obtain ⟨c0, c1, c2, c3, c4, rfl, -⟩ := h3.five
      rw [h1]; rfl, fun j hj => flat_get 6 css h6 i (by rw [h.len]; exact hi) j hj⟩) (fun k => b < k) (fun k hk => by have := (World.ownsRow.lt h.own k hk).1; omega)
  refine .mk 8 0 [] [] fs none none A 0 0 c (fun _ => []) (fun j => (css.getD j []).tail) (by omega) (by omega) len0 (TRow.nil _ _ _ _ _ _) len0 (TRow.nil _ _ _ _ _ _) (by simp) ⟨hc, by omega, hm⟩ (hr.congr fun i hi => ?_) (fun j hj => ?_) (fun j hj => ?_)
  · obtain ⟨d, h1, h2, h3⟩ := h.rep i hi
    rw [h1, getD_at hi]; rfl
  · obtain ⟨d, h1, h2, h3⟩ := h.rep j hj
    rw [h1]
    exact h3.mono fun k _ hS => hS.1.1
  · obtain ⟨d, h1, h2, h3⟩ := h.rep j hj
    exact h2
end Go.Proofs.YtljdfainnmpjnaaDoor

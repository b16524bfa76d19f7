/- Rows that the reader of values makes: lists' values, documents' fields. -/
import Derived.Test.YtljdfainnmpjnaaDoorParse
set_option linter.unusedVariables false
namespace Go.Proofs.YtljdfainnmpjnaaDoor
open Go.RowKit

theorem flat_get (sz : Nat) : ∀ (css : List (List Value)), (∀ c ∈ css, c.length = sz) → ∀ i, i < css.length → ∀ j, j < sz → css.flatten[i * sz + j]? = (css.getD i [])[j]?
  | [], _, i, hi, _, _ => absurd hi (by simp)
  | c :: css, h, i, hi, j, hj => by
    have hc := h c (by simp)
    rw [List.flatten_cons]
    cases i with
    | zero => rw [Nat.zero_mul, Nat.zero_add, List.getElem?_append_left (by omega)]; rfl
    | succ i =>
      have e : (i + 1) * sz + j = c.length + (i * sz + j) := by rw [Nat.add_mul, hc]; omega
      rw [e, List.getElem?_append_right (by omega), Nat.add_sub_cancel_left, flat_get sz css (fun c hc => h c (by simp [hc])) i (by simpa using hi) j hj]
      rfl
theorem flat_len (sz : Nat) : ∀ (css : List (List Value)), (∀ c ∈ css, c.length = sz) → css.flatten.length = css.length * sz
  | [], _ => by simp
  | c :: css, h => by rw [List.flatten_cons, List.length_append, h c (by simp), flat_len sz css (fun c hc => h c (by simp [hc])), List.length_cons, Nat.add_mul]; omega
theorem Rep.five {w : World} {S : Nat → Prop} {v : V} {cs : List Value} (h : Rep w S v cs) : ∃ c0 c1 c2 c3 c4, cs = [c0, c1, c2, c3, c4] ∧ ∀ u ∈ cs, u.oneCell' = true := by
  obtain ⟨k, n, b, l, f⟩ := v
  obtain ⟨AB, AL, AF, cb, cl, cf, L, F, rfl, -⟩ := h.inv
  refine ⟨_, _, _, _, _, rfl, fun u hu => ?_⟩
  simp only [List.mem_cons, List.not_mem_nil, or_false] at hu
  rcases hu with rfl | rfl | rfl | rfl | rfl <;> rfl

theorem ownsRow_slice {w : World} {base size n : Nat} {e : TypeId} {v : Value} {xs : List Value} (h : w.ownsRow base e size v n xs) : ∃ A c, v = .slice A n c := by
  rcases h.2 with ⟨rfl, rfl⟩ | ⟨g, cap, cur, rfl, _⟩
  · exact ⟨_, _, rfl⟩
  · exact ⟨_, _, rfl⟩
/-- The row v of values, in a block of its own behind block b. -/
structure Items (W : World) (b : Nat) (v : Value) (vs : List V) (css : List (List Value)) : Prop where
  own : W.ownsRow (b + 1) 27 5 v vs.length css.flatten
  len : css.length = vs.length
  rep : ∀ j (h : j < vs.length), Rep W (fun k => b < k ∧ some k ≠ v.ownBlock) vs[j] (css.getD j [])
  low : b < W.heap.size
theorem Items.kept {W W' : World} {b : Nat} {v : Value} {vs : List V} {css : List (List Value)} {row : Option Nat} (h : Items W b v vs css) (hg : W.grownBy W' row) (hb : ∀ k, row = some k → k ≤ b) : Items W' b v vs css :=
  ⟨World.ownsRow.kept h.own hg (by
    rcases hv : v.ownBlock with _ | k
    · exact .inl rfl
    · exact .inr fun e => by have := hb k e.symm; have := (World.ownsRow.lt h.own k hv).1; omega), h.len,
   fun j hj => (h.rep j hj).kept (Keeps.of_grown hg _ (fun k e hS => by have := hb k e; have := hS.1; omega)), Nat.lt_of_lt_of_le h.low hg.size⟩
theorem Items.below {W W' : World} {b : Nat} {v : Value} {vs : List V} {css : List (List Value)} (h : Items W b v vs css) (hb : Below W.heap.size W W') : Items W' b v vs css := h.kept (grown_of_below hb none) (fun k e => by cases e)
theorem Items.css5 {W : World} {b : Nat} {v : Value} {vs : List V} {css : List (List Value)} (h : Items W b v vs css) : ∀ c ∈ css, c.length = 5 := by
  intro c hc
  obtain ⟨j, hj, rfl⟩ := List.mem_iff_getElem.1 hc
  obtain ⟨c0, c1, c2, c3, c4, e, -⟩ := (h.rep j (by rw [← h.len]; exact hj)).five
  have : css.getD j [] = css[j] := by simp [hj]
  rw [← this, e]; rfl
/-- One value more. -/
theorem Items.push {W W' : World} {b : Nat} {v v' : Value} {vs : List V} {css : List (List Value)} (h : Items W b v vs css) {x : V} {cs : List Value} (hx : Rep W (fun k => b < k ∧ some k ≠ v.ownBlock) x cs)
    (ho : W'.ownsRow (b + 1) 27 5 v' (vs.length + 1) (css.flatten ++ cs)) (hg : W.grownBy W' v.ownBlock) (hv : v'.ownBlock = v.ownBlock ∨ v'.ownBlock = some W.heap.size) : Items W' b v' (vs ++ [x]) (css ++ [cs]) := by
  have key : ∀ {y : V} {ds : List Value}, Rep W (fun k => b < k ∧ some k ≠ v.ownBlock) y ds → Rep W' (fun k => b < k ∧ some k ≠ v'.ownBlock) y ds := by
    intro y ds hy
    have h1 : Rep W (fun k => (b < k ∧ some k ≠ v.ownBlock) ∧ some k ≠ v'.ownBlock) y ds := hy.mono fun k hk hS => ⟨hS, by
      rcases hv with hv | hv
      · rw [hv]; exact hS.2
      · rw [hv]; intro e; cases e; exact Nat.lt_irrefl _ hk⟩
    exact (h1.kept (Keeps.of_grown hg _ (fun k e hS => hS.1.2 e.symm))).mono fun k _ hS => ⟨hS.1.1, hS.2⟩
  refine ⟨?_, by simp [h.len], fun j hj => ?_, Nat.lt_of_lt_of_le h.low hg.size⟩
  · rw [List.length_append, List.flatten_append]; simpa using ho
  · by_cases hj' : j < vs.length
    · rw [List.getElem_append_left hj', List.getD_eq_getElem?_getD, List.getElem?_append_left (by rw [h.len]; exact hj'), ← List.getD_eq_getElem?_getD]
      exact key (h.rep j hj')
    · have e : j = vs.length := by simp at hj; omega
      subst e
      have e2 : (css ++ [cs]).getD vs.length [] = cs := by rw [← h.len]; simp
      rw [e2]
      simpa using key hx
theorem Items.start {W : World} {b : Nat} {v : Value} (ho : W.ownsRow (b + 1) 27 5 v 0 []) (hb : b < W.heap.size) : Items W b v [] [] := ⟨by simpa using ho, rfl, fun j hj => absurd hj (by simp), hb⟩
/-- The value that the row makes. -/
theorem Items.done {W : World} {b : Nat} {v : Value} {vs : List V} {css : List (List Value)} (h : Items W b v vs css) (hl : vs.length ≤ 64) :
    Rep W (fun k => b < k) (.mk 7 0 [] vs []) [.int .i64 7, .int .u64 0, .slice none 0 0, v, .slice none 0 0] := by
  have h5 := h.css5
  obtain ⟨A, c, rfl, hc, hm, hr⟩ := own_row h.own (fun j => css.getD j []) (fun i hi => ⟨by
      obtain ⟨c0, c1, c2, c3, c4, e, -⟩ := (h.rep i hi).five
      rw [e]; rfl, fun j hj => flat_get 5 css h5 i (by rw [h.len]; exact hi) j hj⟩) (fun k => b < k) (fun k hk => by have := (World.ownsRow.lt h.own k hk).1; omega)
  exact .mk 7 0 [] vs [] none A none 0 c 0 (fun j => css.getD j []) (fun _ => []) (by omega) (by omega) len0 (Row.nil _ _ _ _ _) ⟨hc, by omega, hm⟩ hr (fun j hj => (h.rep j hj).mono fun k _ hS => hS.1) len0 (Row.nil _ _ _ _ _) (by simp) (by simp)

section
variable {ops : Array Oper} {rest : List Oper} {o : Oper} {a : Act} {Q : Exit → Act → World → Prop} {w : World}
/-- append(v, x), x one element of several cells, at a step of a region that draws its order. -/
theorem step_app_one {K : Act → World → Prop} {E : Prop} (hgd : o.guard = none) (s x : Operand) (t e : TypeId) (ho : o.op = .call { callee := .builtin .append, args := #[s, x], argTypes := #[t, t] })
    (i : TypeInfo) (z : Value) (size bytes : Nat) (ht : Tryd.prog.underlying t = some (.slice e)) (hi : Tryd.prog.info? e = some i) (hz : i.zero = some z)
    (hsize : i.size = size) (hby : i.bytes = bytes) (hzs : z.cells.size = size) (hsz : 0 < size)
    (base n : Nat) (v : Value) (xs : List Value) (hs : a.eval s = v) (hown : w.ownsRow base e size v n xs) (b : Nat) (cs : List Value) (hx : a.eval x = .slice (some ⟨b, 0, none⟩) 1 1) (hcs : cs.length = size)
    (hb : w.heap[b]? = some (.cells cs.toArray e (0, 0))) (h1 : ∀ u ∈ cs, u.oneCell' = true) (hn : n ≤ 64) (hbb : bytes ≤ 1000) (hbase : base ≤ w.heap.size)
    (h : ∀ v' w', w'.ownsRow base e size v' (n + 1) (xs ++ cs) → w.grownBy w' v.ownBlock → (v'.ownBlock = v.ownBlock ∨ v'.ownBlock = some w.heap.size) → K (a.put o.dst v') w') :
    if Region.wanted o (yielded ops a.tmps) = true then Oper.wp Tryd.prog o a w K Q else E := by
  have hw : Region.wanted o (yielded ops a.tmps) = true := by simp [Region.wanted, hgd]
  rw [if_pos hw]
  obtain ⟨v', w', hr, h2, h3, h4, h5⟩ := run_append_own_at (P := Tryd.prog) w base t o.type e i z size bytes ht hi hz hsize hby hzs hsz v n xs hown ⟨b, 0, none⟩ 1 1 cs (by omega)
    (fun j u hu => by
      have e : (⟨b, 0, none⟩ : Addr).add j = ⟨b, j, none⟩ := by unfold Addr.add; split <;> simp_all
      rw [e, cell_blk hb j]
      simpa using hu) h1 (by unfold maxLen; omega) (by
      have : (n + 1) * bytes ≤ 65 * 1000 := Nat.mul_le_mul (by omega) hbb
      omega) hbase
  unfold Oper.wp execOp
  simp only [ho, resolve, invoke, builtin, Sem.run_bind, Sem.run_pure, Result.andThen_ok, List.map_toArray, List.map_cons, List.map_nil, hs, hx, hr]
  exact h v' w' h2 h3 h5
end
end Go.Proofs.YtljdfainnmpjnaaDoor

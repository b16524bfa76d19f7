/- The reference's depth of values: what it computes, and that it does. -/
import Derived.Test.YtljdfainnmpjnaaDoorTree
namespace Go.Proofs.YtljdfainnmpjnaaDoor
open Go.RowKit

mutual
def depthR : V → Int
  | .mk k _ _ l f => max (depthL l) (depthF f) + (if 7 ≤ k then 1 else 0)
def depthL : List V → Int
  | [] => 0
  | v :: r => max (depthR v) (depthL r)
def depthF : List (ByteArray × V) → Int
  | [] => 0
  | (_, v) :: r => max (depthR v) (depthF r)
end
mutual
/-- How deep lists and fields stand within one another: what bounds every depth. -/
def V.high : V → Nat
  | .mk _ _ _ l f => 1 + max (highL l) (highF f)
def highL : List V → Nat
  | [] => 0
  | v :: r => max v.high (highL r)
def highF : List (ByteArray × V) → Nat
  | [] => 0
  | (_, v) :: r => max v.high (highF r)
end
theorem depthL_take {l : List V} {i : Nat} (h : i < l.length) : depthL (l.take (i + 1)) = max (depthL (l.take i)) (depthR l[i]) := by
  induction l generalizing i with
  | nil => cases h
  | cons v r ih =>
    cases i with
    | zero => simp [depthL, Int.max_comm]
    | succ i =>
      have := ih (i := i) (by simpa using h)
      simp only [List.take_succ_cons, depthL, List.getElem_cons_succ, this]
      omega
theorem depthF_take {l : List (ByteArray × V)} {i : Nat} (h : i < l.length) : depthF (l.take (i + 1)) = max (depthF (l.take i)) (depthR (l[i]).2) := by
  induction l generalizing i with
  | nil => cases h
  | cons v r ih =>
    obtain ⟨s, v⟩ := v
    cases i with
    | zero => simp [depthF, Int.max_comm]
    | succ i =>
      have := ih (i := i) (by simpa using h)
      simp only [List.take_succ_cons, depthF, List.getElem_cons_succ, this]
      omega
theorem depthL_nonneg : ∀ l, 0 ≤ depthL l
  | [] => by simp [depthL]
  | v :: r => by have := depthL_nonneg r; simp only [depthL]; omega
theorem depthF_nonneg : ∀ l, 0 ≤ depthF l
  | [] => by simp [depthF]
  | (_, v) :: r => by have := depthF_nonneg r; simp only [depthF]; omega
theorem highL_ge {l : List V} {v : V} (h : v ∈ l) : v.high ≤ highL l := by
  induction l with
  | nil => cases h
  | cons u r ih =>
    simp only [highL]
    rcases List.mem_cons.1 h with rfl | h
    · omega
    · have := ih h; omega
theorem highF_ge {l : List (ByteArray × V)} {v : ByteArray × V} (h : v ∈ l) : v.2.high ≤ highF l := by
  induction l with
  | nil => cases h
  | cons u r ih =>
    obtain ⟨s, u⟩ := u
    simp only [highF]
    rcases List.mem_cons.1 h with rfl | h
    · simp only; omega
    · have := ih h; omega
theorem depth_high (v : V) : depthR v ≤ v.high := by
  induction v using V.ind0 with
  | h k n b l f ihl ihf =>
    have h1 : depthL l ≤ highL l := by
      clear ihf
      induction l with
      | nil => simp [depthL, highL]
      | cons v r ih =>
        have a := ihl v (by simp)
        have b := ih (fun x hx => ihl x (by simp [hx]))
        simp only [depthL, highL]; omega
    have h2 : depthF f ≤ highF f := by
      clear ihl
      induction f with
      | nil => simp [depthF, highF]
      | cons v r ih =>
        have a := ihf v (by simp)
        have b := ih (fun x hx => ihf x (by simp [hx]))
        obtain ⟨s, v⟩ := v
        simp only [depthF, highF] at *; omega
    simp only [depthR, V.high]
    split <;> omega

set_option maxHeartbeats 1000000 in
theorem depth_any (v : V) : ∀ (cs : List Value) (w : World), Rep0 w v cs → v.high ≤ 1000000 →
    Calls Tryd.prog 55 #[.agg cs.toArray] w fun e w' => e = .returned (.int .i64 (depthR v)) ∧ Below w.heap.size w w' := by
  induction v using V.ind with
  | h k n b l f ihl ihf =>
  intro cs w h hh
  obtain ⟨AB, AL, AF, cb, cl, cf, L, F, rfl, -, -, hb, hB, hl, hL, hLs, hf, hF, hFs, hfn⟩ := h.inv
  clear h hB hb
  obtain ⟨X, hX⟩ : ∃ X, Obj.cells #[Value.int .i64 k, .int .u64 n, .slice AB b.length cb, .slice AL l.length cl, .slice AF f.length cf] 27 = X := ⟨_, rfl⟩
  have HX := Lib.hid hX
  clear hX
  obtain ⟨hl1, hl2, hl3⟩ := hl
  obtain ⟨hf1, hf2, hf3⟩ := hf
  obtain ⟨R, hR⟩ : ∃ R, depthR (.mk k n b l f) = R := ⟨_, rfl⟩
  have hRh : R ≤ 1000000 := by have := depth_high (.mk k n b l f); rw [hR] at this; omega
  rw [hR]
  rw [depthR] at hR
  have HR := Lib.hid hR
  have hhl : highL l ≤ 1000000 := by simp only [V.high] at hh; omega
  have hhf : highF f ≤ 1000000 := by simp only [V.high] at hh; omega
  clear hR hh
  go_enter Tryd.func55, Tryd.ntmps55
  go_wp2_with fail
  go_loopg [3, 4] l.length (fun g t3 t4 wr => ∃ (i : Nat) (y : Int), i ≤ l.length ∧ t4 = .int .i64 i ∧ t3 = .int .i64 y ∧ y = depthL (l.take i) ∧ l.length ≤ i + g ∧ Below (w.heap.size + 1) (w.alloc X) wr)
  case atStart => exact ⟨0, 0, by omega, rfl, rfl, rfl, by omega, by rw [← HX.out]; exact Below.refl _ _⟩
  case round =>
    obtain ⟨i, y, hi, rfl, rfl, hw, hg, hbw⟩ := hrel
    have HW := Lib.hid hw
    clear hw
    have hblk := blk_alloc hbw
    rw [← HX.out] at hblk
    have c3 := cell_blk hblk 3
    clear hblk
    by_cases hlt : i < l.length
    · have hLw := hL.kept (Keeps.of_below (below_of_alloc hbw) _ fun _ _ h => h)
      obtain ⟨bb, o, x0, x1, x2, x3, x4, hAd, hLi, e0, e1, e2, e3, e4⟩ := hLw.at5 hlt
      have hRi : Rep0 wr l[i] [x0, x1, x2, x3, x4] := by rw [← hLi]; exact Rep0.below (below_of_alloc hbw) (hLs i hlt)
      clear hLi hLw
      subst hAd
      go_wp2_with fail
      refine (ihl i hlt _ _ hRi (by have := highL_ge (List.getElem_mem hlt); omega)).mono ?_
      rintro e w1 ⟨rfl, hb1⟩
      go_wp2_with fail
      all_goals
        go_roundg (gk - 1)
        case measure => omega
        case rel =>
          refine ⟨i + 1, _, by omega, by go_num, rfl, ?_, by omega, below_alloc_trans hbw hb1⟩
          have hw := HW.out
          rw [depthL_take hlt]
          omega
    · have hw := HW.out
      rw [List.take_of_length_le (by omega)] at hw
      have HW2 := Lib.hid hw
      clear hw HW
      obtain ⟨wo, hwo⟩ : ∃ wo, wo = wr := ⟨_, rfl⟩
      subst hwo
      go_wp2_with fail
      clear c3
      go_loopg [3, 5] f.length (fun g t3 t4 wr => ∃ (i : Nat) (y : Int), i ≤ f.length ∧ t4 = .int .i64 i ∧ t3 = .int .i64 y ∧ y = max (depthL l) (depthF (f.take i)) ∧ f.length ≤ i + g ∧ Below (w.heap.size + 1) (w.alloc X) wr)
      case atStart => exact ⟨0, y, by omega, rfl, rfl, by have := depthL_nonneg l; rw [HW2.out, List.take_zero, depthF]; omega, by omega, hbw⟩
      case round =>
        clear hbw HW2
        obtain ⟨i, y, hi, rfl, rfl, hw, hg, hbw⟩ := hrel
        have HW := Lib.hid hw
        clear hw
        have hblk := blk_alloc hbw
        rw [← HX.out] at hblk
        have c4 := cell_blk hblk 4
        have c0 := cell_blk hblk 0
        clear hblk
        by_cases hlt : i < f.length
        · have hLw := hF.kept (Keeps.of_below (below_of_alloc hbw) _ fun _ _ h => h)
          obtain ⟨bb, o, s, x0, x1, x2, x3, x4, hAd, hLi, e, e0, e1, e2, e3, e4⟩ := hLw.at6 hlt
          have hRi : Rep0 wr (f[i]).2 [x0, x1, x2, x3, x4] := by rw [← (List.cons.inj hLi).2]; exact Rep0.below (below_of_alloc hbw) (hFs i hlt)
          clear hLi hLw
          subst hAd
          go_wp2_with fail
          refine (ihf i hlt _ _ hRi (by have := highF_ge (List.getElem_mem hlt); omega)).mono ?_
          rintro e w1 ⟨rfl, hb1⟩
          go_wp2_with fail
          all_goals
            go_roundg (gk - 1)
            case measure => omega
            case rel =>
              refine ⟨i + 1, _, by omega, by go_num, rfl, ?_, by omega, below_alloc_trans hbw hb1⟩
              have hw := HW.out
              rw [depthF_take hlt]
              omega
        · have hw := HW.out
          rw [List.take_of_length_le (by omega)] at hw
          have hr := HR.out
          rw [← hw] at hr
          have hy0 := depthL_nonneg l
          have hy : 0 ≤ y := by omega
          by_cases hk : 7 ≤ k
          · rw [if_pos hk] at hr
            have hy2 : y + 1 ≤ 1000000 := by omega
            subst hr
            clear hw HW HR
            go_wp2_with fail
            go_ret
            exact ⟨rfl, below_of_alloc hbw⟩
          · rw [if_neg hk, Int.add_zero] at hr
            subst hr
            clear hw HW HR
            go_wp2_with fail
            go_ret
            exact ⟨rfl, below_of_alloc hbw⟩
end Go.Proofs.YtljdfainnmpjnaaDoor

/- The reference's count of a value's parts: what munimentref2.walked computes, and that it computes it. -/
import Derived.Test.YtljdfainnmpjnaaDoorBase
import Derived.Deep.DeepCutAuto
import Derived.Deep.CutBlock
import Derived.Deep.LoopGhost
namespace Go.Proofs.YtljdfainnmpjnaaDoor
open Go.RowKit

mutual
def walkedR : V → Int → Int × Bool
  | .mk _ _ _ l f, left =>
    match walkL l (left - 1) with
    | none => (0, false)
    | some x => match walkF f x with
      | none => (0, false)
      | some y => (y, decide (0 < y))
def walkL : List V → Int → Option Int
  | [], x => some x
  | v :: r, x => if 0 < x then (if (walkedR v x).2 then walkL r (walkedR v x).1 else none) else some x
def walkF : List (ByteArray × V) → Int → Option Int
  | [], x => some x
  | (_, v) :: r, x => if 0 < x then (if (walkedR v x).2 then walkF r (walkedR v x).1 else none) else some x
end

theorem walkL_done {l : List V} {i : Nat} {x : Int} (h : l.length ≤ i ∨ x ≤ 0) : walkL (l.drop i) x = some x := by
  rcases h with h | h
  · rw [List.drop_of_length_le h]; simp [walkL]
  · cases l.drop i with
    | nil => simp [walkL]
    | cons v r => rw [walkL, if_neg (by omega)]
theorem walkL_step {l : List V} {i : Nat} {x : Int} (h : i < l.length) (hx : 0 < x) :
    walkL (l.drop i) x = if (walkedR l[i] x).2 then walkL (l.drop (i + 1)) (walkedR l[i] x).1 else none := by
  rw [List.drop_eq_getElem_cons h, walkL, if_pos hx]
theorem walkF_done {l : List (ByteArray × V)} {i : Nat} {x : Int} (h : l.length ≤ i ∨ x ≤ 0) : walkF (l.drop i) x = some x := by
  rcases h with h | h
  · rw [List.drop_of_length_le h]; simp [walkF]
  · cases l.drop i with
    | nil => simp [walkF]
    | cons v r => obtain ⟨s, v⟩ := v; rw [walkF, if_neg (by omega)]
theorem walkF_step {l : List (ByteArray × V)} {i : Nat} {x : Int} (h : i < l.length) (hx : 0 < x) :
    walkF (l.drop i) x = if (walkedR (l[i]).2 x).2 then walkF (l.drop (i + 1)) (walkedR (l[i]).2 x).1 else none := by
  rw [List.drop_eq_getElem_cons h]
  generalize l[i] = p
  obtain ⟨s, v⟩ := p
  rw [walkF, if_pos hx]

/-- The count goes down by one at least, and stays above 0 where it tells so. -/
def Down (v : V) : Prop := ∀ x, 0 < x → (walkedR v x).2 = true → 0 < (walkedR v x).1 ∧ (walkedR v x).1 < x
theorem walkL_down : ∀ (l : List V) (_ : ∀ v ∈ l, Down v) (x y : Int), 0 ≤ x → walkL l x = some y → 0 ≤ y ∧ y ≤ x
  | [], _, x, y, hx, h => by simp [walkL] at h; omega
  | v :: r, hl, x, y, hx, h => by
    rw [walkL] at h
    split at h
    · rename_i hp
      split at h
      · rename_i ho
        have h1 := hl v (by simp) x hp ho
        have := walkL_down r (fun v hv => hl v (by simp [hv])) _ y (by omega) h
        omega
      · cases h
    · cases h; omega
theorem walkF_down : ∀ (l : List (ByteArray × V)) (_ : ∀ v ∈ l, Down v.2) (x y : Int), 0 ≤ x → walkF l x = some y → 0 ≤ y ∧ y ≤ x
  | [], _, x, y, hx, h => by simp [walkF] at h; omega
  | (s, v) :: r, hl, x, y, hx, h => by
    rw [walkF] at h
    split at h
    · rename_i hp
      split at h
      · rename_i ho
        have h1 := hl (s, v) (by simp) x hp ho
        simp only at h1
        have := walkF_down r (fun v hv => hl v (by simp [hv])) _ y (by omega) h
        omega
      · cases h
    · cases h; omega
theorem walkedR_down (v : V) : Down v := by
  induction v using V.ind0 with
  | h k n b l f ihl ihf =>
    intro x hx h
    rw [walkedR] at h ⊢
    cases hl : walkL l (x - 1) with
    | none => rw [hl] at h; cases h
    | some y =>
      rw [hl] at h
      dsimp only at h ⊢
      have h1 := walkL_down l ihl (x - 1) y (by omega) hl
      cases hf : walkF f y with
      | none => rw [hf] at h; cases h
      | some z =>
        rw [hf] at h
        dsimp only at h ⊢
        have h2 := walkF_down f ihf y z h1.1 hf
        have : 0 < z := by simpa using h
        omega

set_option maxHeartbeats 1000000 in
theorem walked_any (v : V) : ∀ (cs : List Value) (x : Int) (w : World), Rep0 w v cs → 0 < x → x ≤ 20000 →
    Calls Tryd.prog 46 #[.agg cs.toArray, .int .i64 x] w fun e w' => e = .returned (.tuple #[.int .i64 (walkedR v x).1, .bool (walkedR v x).2]) ∧ Below w.heap.size w w' := by
  induction v using V.ind with
  | h k n b l f ihl ihf =>
  intro cs x w h hx0 hx1
  obtain ⟨AB, AL, AF, cb, cl, cf, L, F, rfl, -, -, hb, hB, hl, hL, hLs, hf, hF, hFs, hfn⟩ := h.inv
  clear h hB hb
  obtain ⟨X, hX⟩ : ∃ X, Obj.cells #[Value.int .i64 k, .int .u64 n, .slice AB b.length cb, .slice AL l.length cl, .slice AF f.length cf] 27 = X := ⟨_, rfl⟩
  have HX := Lib.hid hX
  clear hX
  obtain ⟨hl1, hl2, hl3⟩ := hl
  obtain ⟨hf1, hf2, hf3⟩ := hf
  obtain ⟨R, hR⟩ : ∃ R, walkedR (.mk k n b l f) x = R := ⟨_, rfl⟩
  rw [hR]
  rw [walkedR] at hR
  obtain ⟨A, hA⟩ : ∃ A, walkL l (x - 1) = A := ⟨_, rfl⟩
  rw [hA] at hR
  have HR := Lib.hid hR
  have HA := Lib.hid hA
  clear hR hA
  go_enter Tryd.func46, Tryd.ntmps46
  go_upto_block 0 with fail
  go_cut [1] (fun t1 wc => ∃ y : Int, t1 = .int .i64 y ∧ 0 ≤ y ∧ y ≤ 20000 ∧ A = some y ∧ Below (w.heap.size + 1) (w.alloc X) wc)
  case first =>
    go_wp2_with fail
    go_loopg [1, 6] l.length (fun g t1 t6 wr => ∃ (i : Nat) (y : Int), i ≤ l.length ∧ t6 = .int .i64 i ∧ t1 = .int .i64 y ∧ 0 ≤ y ∧ y ≤ 20000 ∧ walkL (l.drop i) y = A ∧ l.length ≤ i + g ∧ Below (w.heap.size + 1) (w.alloc X) wr)
    case atStart => exact ⟨0, x - 1, by omega, rfl, by simp, by omega, by omega, HA.out, by omega, by rw [← HX.out]; exact Below.refl _ _⟩
    case round =>
      obtain ⟨i, y, hi, rfl, rfl, hy0, hy1, hw, hg, hbw⟩ := hrel
      have HW := Lib.hid hw
      clear hw
      have hblk := blk_alloc hbw
      rw [← HX.out] at hblk
      have c3 := cell_blk hblk 3
      clear hblk
      by_cases hlt : i < l.length
      · by_cases hp : 0 < y
        · have hLw := hL.kept (Keeps.of_below (below_of_alloc hbw) _ fun _ _ h => h)
          obtain ⟨bb, o, x0, x1, x2, x3, x4, hAd, hLi, e0, e1, e2, e3, e4⟩ := hLw.at5 hlt
          have hRi : Rep0 wr l[i] [x0, x1, x2, x3, x4] := by rw [← hLi]; exact Rep0.below (below_of_alloc hbw) (hLs i hlt)
          clear hLi hLw
          subst hAd
          go_wp2_with fail
          refine (ihl i hlt _ _ _ hRi hp hy1).mono ?_
          rintro e w1 ⟨rfl, hb1⟩
          have hd := walkedR_down l[i] y hp
          have hw := HW.out
          rw [walkL_step hlt hp] at hw
          cases hok : (walkedR l[i] y).2 with
          | true =>
            rw [hok, if_pos rfl] at hw
            have hd := hd hok
            generalize (walkedR l[i] y).1 = z at hd hw ⊢
            have HW2 := Lib.hid hw
            clear hw hok HW
            go_wp2_with fail
            go_roundg (gk - 1)
            case measure => omega
            case rel => exact ⟨i + 1, z, by omega, by go_num, rfl, by omega, by omega, HW2.out, by omega, below_alloc_trans hbw hb1⟩
          | false =>
            rw [hok, if_neg (by simp)] at hw
            have HW2 := Lib.hid hw
            clear hw hok HW
            go_wp2_with fail
            go_ret2
            obtain rfl : R = (0, false) := by rw [← HR.out, ← HW2.out]
            exact ⟨rfl, below_of_alloc (below_alloc_trans hbw hb1)⟩
        · go_wp2_with fail
          go_meet
          case rel => exact ⟨y, rfl, hy0, hy1, by rw [← HW.out]; exact walkL_done (Or.inr (by omega)), hbw⟩
      · go_wp2_with fail
        go_meet
        case rel => exact ⟨y, rfl, hy0, hy1, by rw [← HW.out]; exact walkL_done (Or.inl (by omega)), hbw⟩
  case rest =>
    obtain ⟨y, rfl, hy0, hy1, hA, hbc⟩ := hcut
    have hr := HR.out
    rw [hA] at hr
    dsimp only at hr
    obtain ⟨B, hB⟩ : ∃ B, walkF f y = B := ⟨_, rfl⟩
    rw [hB] at hr
    have HR2 := Lib.hid hr
    have HB := Lib.hid hB
    clear hr hB hA HR HA
    go_upto_block 2 with fail
    go_cut [1] (fun t1 wc => ∃ y : Int, t1 = .int .i64 y ∧ 0 ≤ y ∧ y ≤ 20000 ∧ B = some y ∧ Below (w.heap.size + 1) (w.alloc X) wc)
    case first =>
      go_wp2_with fail
      go_loopg [1, 9] f.length (fun g t1 t6 wr => ∃ (i : Nat) (y : Int), i ≤ f.length ∧ t6 = .int .i64 i ∧ t1 = .int .i64 y ∧ 0 ≤ y ∧ y ≤ 20000 ∧ walkF (f.drop i) y = B ∧ f.length ≤ i + g ∧ Below (w.heap.size + 1) (w.alloc X) wr)
      case atStart => exact ⟨0, y, by omega, rfl, rfl, by omega, by omega, HB.out, by omega, hbc⟩
      case round =>
        clear hbc
        obtain ⟨i, z, hi, rfl, rfl, hz0, hz1, hw, hg, hbw⟩ := hrel
        have HW := Lib.hid hw
        clear hw
        have hblk := blk_alloc hbw
        rw [← HX.out] at hblk
        have c4 := cell_blk hblk 4
        clear hblk
        by_cases hlt : i < f.length
        · by_cases hp : 0 < z
          · have hFw := hF.kept (Keeps.of_below (below_of_alloc hbw) _ fun _ _ h => h)
            obtain ⟨bb, o, s, x0, x1, x2, x3, x4, hAd, hFi, e, e0, e1, e2, e3, e4⟩ := hFw.at6 hlt
            have hRi : Rep0 wr (f[i]).2 [x0, x1, x2, x3, x4] := by rw [← (List.cons.inj hFi).2]; exact Rep0.below (below_of_alloc hbw) (hFs i hlt)
            clear hFi hFw
            subst hAd
            go_wp2_with fail
            refine (ihf i hlt _ _ _ hRi hp hz1).mono ?_
            rintro e w1 ⟨rfl, hb1⟩
            have hd := walkedR_down (f[i]).2 z hp
            have hw := HW.out
            rw [walkF_step hlt hp] at hw
            cases hok : (walkedR (f[i]).2 z).2 with
            | true =>
              rw [hok, if_pos rfl] at hw
              have hd := hd hok
              generalize (walkedR (f[i]).2 z).1 = z2 at hd hw ⊢
              have HW2 := Lib.hid hw
              clear hw hok HW
              go_wp2_with fail
              go_roundg (gk - 1)
              case measure => omega
              case rel => exact ⟨i + 1, z2, by omega, by go_num, rfl, by omega, by omega, HW2.out, by omega, below_alloc_trans hbw hb1⟩
            | false =>
              rw [hok, if_neg (by simp)] at hw
              have HW2 := Lib.hid hw
              clear hw hok HW
              go_wp2_with fail
              go_ret2
              obtain rfl : R = (0, false) := by rw [← HR2.out, ← HW2.out]
              exact ⟨rfl, below_of_alloc (below_alloc_trans hbw hb1)⟩
          · go_wp2_with fail
            go_meet
            case rel => exact ⟨z, rfl, hz0, hz1, by rw [← HW.out]; exact walkF_done (Or.inr (by omega)), hbw⟩
        · go_wp2_with fail
          go_meet
          case rel => exact ⟨z, rfl, hz0, hz1, by rw [← HW.out]; exact walkF_done (Or.inl (by omega)), hbw⟩
    case rest =>
      obtain ⟨z, rfl, hz0, hz1, hB, hbc⟩ := hcut
      have hr := HR2.out
      rw [hB] at hr
      have HR3 := Lib.hid hr
      clear hr hB HR2 HB
      go_wp2_with fail
      go_ret2
      obtain rfl : R = (z, decide (0 < z)) := by rw [← HR3.out]
      exact ⟨rfl, below_of_alloc hbc⟩
end Go.Proofs.YtljdfainnmpjnaaDoor

/- The program's size of a value. -/
import Derived.Test.YtljdfainnmpjnaaDoorMeas
import Derived.Test.YtljdfainnmpjnaaDoorStepCall
import Derived.Deep.RegionLaw
set_option linter.unusedVariables false
namespace Go.Proofs.YtljdfainnmpjnaaDoor
open Go.RowKit

section
variable {ops : Array Oper} {rest : List Oper} {o : Oper} {a : Act} {Q : Exit → Act → World → Prop} {w : World}
/-- A call that returns, at a step of a region that draws its order: one argument, two. -/
theorem step_call1 {K : Act → World → Prop} {E : Prop} (f : FuncId) (hgd : o.guard = none) (x : Operand) (ts : Array TypeId) (ho : o.op = .call { callee := .value (.func f), args := #[x], argTypes := ts })
    {p r : Value} (hx : a.eval x = p) (he : ∀ args w, (callFunc f args).run Tryd.prog w = .ok (.enter f args) w) {R : World → Prop} (h : Calls Tryd.prog f #[p] w (fun e w' => e = .returned r ∧ R w'))
    (hK : ∀ w', R w' → K (a.put o.dst r) w') :
    if Region.wanted o (yielded ops a.tmps) = true then Oper.wp Tryd.prog o a w K Q else E := by
  have hw : Region.wanted o (yielded ops a.tmps) = true := by simp [Region.wanted, hgd]
  rw [if_pos hw]
  have e : (execOp a.eval o).run Tryd.prog w = .ok (.enter f #[p]) w := by
    unfold execOp
    simp only [ho]
    have hf : a.eval (.func f) = .func (.func f) #[] #[] := rfl
    simp [resolve, hx, hf, Deferred.ofValue, invoke, he]
  unfold Oper.wp
  rw [e, Oper.upon_enter]
  refine h.mono ?_
  rintro e' w' ⟨rfl, hr⟩
  exact hK w' hr
end

def headN (k : Int) (b : List UInt8) : Int := 1 + (if k = 2 then 1 else if k = 3 ∨ k = 4 then 8 else if k = 5 ∨ k = 6 then 2 + (b.length : Int) else if k = 7 ∨ k = 8 then 1 else 0)
mutual
def sizeR : V → Int
  | .mk k _ b l f => headN k b + sizeL l + sizeF f
def sizeL : List V → Int
  | [] => 0
  | v :: r => sizeR v + sizeL r
def sizeF : List (ByteArray × V) → Int
  | [] => 0
  | (s, v) :: r => (1 + s.size + sizeR v) + sizeF r
end
theorem headN_pos (k : Int) (b : List UInt8) : 1 ≤ headN k b := by
  unfold headN
  repeat' split
  all_goals omega
theorem sizeL_nonneg : ∀ (l : List V) (_ : ∀ v ∈ l, 1 ≤ sizeR v), 0 ≤ sizeL l
  | [], _ => by simp [sizeL]
  | v :: r, h => by have := sizeL_nonneg r (fun v hv => h v (by simp [hv])); have := h v (by simp); simp only [sizeL]; omega
theorem sizeF_nonneg : ∀ (l : List (ByteArray × V)) (_ : ∀ v ∈ l, 1 ≤ sizeR v.2), 0 ≤ sizeF l
  | [], _ => by simp [sizeF]
  | (s, v) :: r, h => by have := sizeF_nonneg r (fun v hv => h v (by simp [hv])); have := h (s, v) (by simp); dsimp only at this; simp only [sizeF]; omega
theorem sizeR_pos (v : V) : 1 ≤ sizeR v := by
  induction v using V.ind0 with
  | h k n b l f ihl ihf =>
    have := headN_pos k b
    have := sizeL_nonneg l ihl
    have := sizeF_nonneg f ihf
    simp only [sizeR]
    omega
theorem sizeL_take {l : List V} {i : Nat} (h : i < l.length) : sizeL (l.take (i + 1)) = sizeL (l.take i) + sizeR l[i] := by
  induction l generalizing i with
  | nil => cases h
  | cons v r ih =>
    cases i with
    | zero => simp [sizeL]
    | succ i =>
      have := ih (i := i) (by simpa using h)
      simp only [List.take_succ_cons, sizeL, List.getElem_cons_succ, this]
      omega
theorem sizeF_take {l : List (ByteArray × V)} {i : Nat} (h : i < l.length) : sizeF (l.take (i + 1)) = sizeF (l.take i) + (1 + (l[i]).1.size + sizeR (l[i]).2) := by
  induction l generalizing i with
  | nil => cases h
  | cons v r ih =>
    obtain ⟨s, v⟩ := v
    cases i with
    | zero => simp [sizeF]
    | succ i =>
      have := ih (i := i) (by simpa using h)
      simp only [List.take_succ_cons, sizeF, List.getElem_cons_succ, this]
      omega
theorem sizeL_split (l : List V) (i : Nat) : sizeL l = sizeL (l.take i) + sizeL (l.drop i) := by
  induction l generalizing i with
  | nil => simp [sizeL]
  | cons v r ih =>
    cases i with
    | zero => simp [sizeL]
    | succ i =>
      have := ih i
      simp only [List.take_succ_cons, List.drop_succ_cons, sizeL]
      omega
theorem sizeF_split (l : List (ByteArray × V)) (i : Nat) : sizeF l = sizeF (l.take i) + sizeF (l.drop i) := by
  induction l generalizing i with
  | nil => simp [sizeF]
  | cons v r ih =>
    obtain ⟨s, v⟩ := v
    cases i with
    | zero => simp [sizeF]
    | succ i =>
      have := ih i
      simp only [List.take_succ_cons, List.drop_succ_cons, sizeF]
      omega
theorem sizeL_ge {l : List V} {i : Nat} (h : i < l.length) : sizeL (l.take i) + sizeR l[i] ≤ sizeL l ∧ 0 ≤ sizeL (l.take i) := by
  have h1 := sizeL_split l (i + 1)
  rw [sizeL_take h] at h1
  have h2 := sizeL_nonneg (l.drop (i + 1)) (fun v _ => sizeR_pos v)
  have h3 := sizeL_nonneg (l.take i) (fun v _ => sizeR_pos v)
  omega
theorem sizeF_ge {l : List (ByteArray × V)} {i : Nat} (h : i < l.length) : sizeF (l.take i) + (1 + (l[i]).1.size + sizeR (l[i]).2) ≤ sizeF l ∧ 0 ≤ sizeF (l.take i) := by
  have h1 := sizeF_split l (i + 1)
  rw [sizeF_take h] at h1
  have h2 := sizeF_nonneg (l.drop (i + 1)) (fun v _ => sizeR_pos v.2)
  have h3 := sizeF_nonneg (l.take i) (fun v _ => sizeR_pos v.2)
  omega

set_option maxRecDepth 100000 in
set_option maxHeartbeats 4000000 in
theorem size_any (v : V) : ∀ (cs : List Value) (w : World), Rep0 w v cs → sizeR v ≤ 9000000000000000000 →
    Calls Tryd.prog 48 #[.agg cs.toArray] w fun e w' => e = .returned (.int .i64 (sizeR v)) ∧ Below w.heap.size w w' := by
  induction v using V.ind with
  | h k n b l f ihl ihf =>
  intro cs w h hbig
  obtain ⟨AB, AL, AF, cb, cl, cf, L, F, rfl, hkr, -, hb, hB, hl, hL, hLs, hf, hF, hFs, hfn⟩ := h.inv
  clear h hB
  obtain ⟨X, hX⟩ : ∃ X, Obj.cells #[Value.int .i64 k, .int .u64 n, .slice AB b.length cb, .slice AL l.length cl, .slice AF f.length cf] 27 = X := ⟨_, rfl⟩
  have HX := Lib.hid hX
  clear hX
  obtain ⟨hb1, hb2, hb3⟩ := hb
  obtain ⟨hl1, hl2, hl3⟩ := hl
  obtain ⟨hf1, hf2, hf3⟩ := hf
  obtain ⟨R, hR⟩ : ∃ R, sizeR (.mk k n b l f) = R := ⟨_, rfl⟩
  rw [hR] at hbig ⊢
  rw [sizeR] at hR
  have hL0 := sizeL_nonneg l (fun v _ => sizeR_pos v)
  have hF0 := sizeF_nonneg f (fun v _ => sizeR_pos v.2)
  obtain ⟨N, hN⟩ : ∃ N, headN k b = N := ⟨_, rfl⟩
  have hN1 := headN_pos k b
  rw [hN] at hR hN1
  have HR := Lib.hid hR
  have HN := Lib.hid hN
  clear hR hN
  go_enter Tryd.func48, Tryd.ntmps48
  go_upto_block 0 with fail
  go_cut [3] (fun t3 wc => t3 = .int .i64 N ∧ w.alloc X = wc)
  case first =>
    have hN := HN.out
    unfold headN at hN
    clear HR HN hL0 hF0
    by_cases e2 : k = 2
    · subst e2; rw [if_pos rfl] at hN; subst hN
      go_wp2_with fail
      go_meet
      exact ⟨rfl, HX.out.symm ▸ rfl⟩
    rw [if_neg e2] at hN
    by_cases e3 : k = 3
    · subst e3; rw [if_pos (.inl rfl)] at hN; subst hN
      go_wp2_with fail
      go_meet
      exact ⟨rfl, HX.out.symm ▸ rfl⟩
    by_cases e4 : k = 4
    · subst e4; rw [if_pos (.inr rfl)] at hN; subst hN
      go_wp2_with fail
      go_meet
      exact ⟨rfl, HX.out.symm ▸ rfl⟩
    rw [if_neg (by omega)] at hN
    by_cases e5 : k = 5
    · subst e5; rw [if_pos (.inl rfl)] at hN; subst hN
      go_wp2_with fail
      go_meet
      exact ⟨by show Value.int .i64 _ = _; congr 1, HX.out.symm ▸ rfl⟩
    by_cases e6 : k = 6
    · subst e6; rw [if_pos (.inr rfl)] at hN; subst hN
      go_wp2_with fail
      go_meet
      exact ⟨by show Value.int .i64 _ = _; congr 1, HX.out.symm ▸ rfl⟩
    rw [if_neg (by omega)] at hN
    by_cases e7 : k = 7
    · subst e7; rw [if_pos (.inl rfl)] at hN; subst hN
      go_wp2_with fail
      go_meet
      exact ⟨rfl, HX.out.symm ▸ rfl⟩
    by_cases e8 : k = 8
    · subst e8; rw [if_pos (.inr rfl)] at hN; subst hN
      go_wp2_with fail
      go_meet
      exact ⟨rfl, HX.out.symm ▸ rfl⟩
    rw [if_neg (by omega)] at hN
    subst hN
    have q2 : (k == 2) = false := by simpa using e2
    have q3 : (k == 3) = false := by simpa using e3
    have q4 : (k == 4) = false := by simpa using e4
    have q5 : (k == 5) = false := by simpa using e5
    have q6 : (k == 6) = false := by simpa using e6
    have q7 : (k == 7) = false := by simpa using e7
    have q8 : (k == 8) = false := by simpa using e8
    clear e2 e3 e4 e5 e6 e7 e8
    go_wp2_with fail
    go_meet
    exact ⟨rfl, HX.out.symm ▸ rfl⟩
  case rest =>
    obtain ⟨rfl, rfl⟩ := hcut
    clear HN
    have hbw0 : Below (w.heap.size + 1) (w.alloc X) (w.alloc X) := Below.refl _ _
    have hblk0 := blk_alloc hbw0
    rw [← HX.out] at hblk0
    have c30 := cell_blk hblk0 3
    rw [HX.out] at c30
    clear hblk0
    go_wp2_with fail
    clear c30
    go_loopg [3, 36] l.length (fun g t3 t4 wr => ∃ (i : Nat) (y : Int), i ≤ l.length ∧ t4 = .int .i64 i ∧ t3 = .int .i64 y ∧ y = N + sizeL (l.take i) ∧ l.length ≤ i + g ∧ Below (w.heap.size + 1) (w.alloc X) wr)
    case atStart => exact ⟨0, N, by omega, rfl, rfl, by simp [sizeL], by omega, hbw0⟩
    case round =>
      clear hbw0
      obtain ⟨i, y, hi, rfl, rfl, hw, hg, hbw⟩ := hrel
      have HW := Lib.hid hw
      clear hw
      have hbl := below_of_alloc hbw
      have hblk := blk_alloc hbw
      rw [← HX.out] at hblk
      have c4 := cell_blk hblk 4
      clear hblk
      by_cases hlt : i < l.length
      · obtain ⟨bb, o, vk, vn, A1, A2, A3, n1, m1, n2, m2, n3, m3, rfl, e0, e1, e2, e3, e4, hRi⟩ := elem5 hL hLs hbl hlt
        have hRa := Rep0.below (below_of_alloc (Below.refl (wr.heap.size + 1) (wr.alloc (.cells #[.int .i64 vk, .int .u64 vn, .slice A1 n1 m1, .slice A2 n2 m2, .slice A3 n3 m3] 27)))) hRi
        have hge := sizeL_ge hlt
        have hpos := sizeR_pos l[i]
        have hy : 1 ≤ y := by have := HW.out; omega
        have hsum : y + sizeR l[i] ≤ 9000000000000000000 := by have := HW.out; have := HR.out; omega
        have hc := ihl i hlt _ _ hRa (by have := HR.out; omega)
        have HS := Lib.hid (sizeL_take hlt)
        generalize sizeR l[i] = z at hc hsum hpos hge HS
        clear c4 hge
        go_wp2_with fail
        refine hc.mono ?_
        rintro e w1 ⟨rfl, hb1⟩
        have hb2 := below_of_alloc (hb1.mono (Nat.le_of_eq (by simp)))
        clear hc
        go_wp2_with fail
        go_roundg (gk - 1)
        case measure => omega
        case rel =>
          refine ⟨i + 1, _, by omega, by go_num, rfl, ?_, by omega, below_alloc_trans hbw hb2⟩
          have hw := HW.out
          have hs := HS.out
          omega
      · have hw := HW.out
        rw [List.take_of_length_le (by omega)] at hw
        have HW2 := Lib.hid hw
        clear hw HW
        obtain ⟨wo, hwo⟩ : ∃ wo, wo = wr := ⟨_, rfl⟩
        subst hwo
        go_wp2_with fail
        clear c4
        go_loopg [3, 48] f.length (fun g t3 t4 wr => ∃ (i : Nat) (y : Int), i ≤ f.length ∧ t4 = .int .i64 i ∧ t3 = .int .i64 y ∧ y = N + sizeL l + sizeF (f.take i) ∧ f.length ≤ i + g ∧ Below (w.heap.size + 1) (w.alloc X) wr)
        case atStart => exact ⟨0, y, by omega, rfl, rfl, by rw [HW2.out, List.take_zero, sizeF]; omega, by omega, hbw⟩
        case round =>
          clear hbw HW2 hbl
          obtain ⟨i, y, hi, rfl, rfl, hw, hg, hbw⟩ := hrel
          have HW := Lib.hid hw
          clear hw
          have hbl := below_of_alloc hbw
          by_cases hlt : i < f.length
          · obtain ⟨bb, o, vk, vn, A1, A2, A3, n1, m1, n2, m2, n3, m3, rfl, e, e0, e1, e2, e3, e4, hRi⟩ := elem6 hF hFs hbl hlt
            have hge := sizeF_ge hlt
            have hpos := sizeR_pos (f[i]).2
            have hy : 1 ≤ y := by have := HW.out; omega
            have hsum : y + (1 + ((f[i]).1.size : Int) + sizeR (f[i]).2) ≤ 9000000000000000000 := by have := HW.out; have := HR.out; omega
            have hbd := below_of_alloc (Below.refl (wr.heap.size + 1) (wr.alloc (.cells #[.string (f[i]).1, .int .i64 vk, .int .u64 vn, .slice A1 n1 m1, .slice A2 n2 m2, .slice A3 n3 m3] 59)))
            have hRa := Rep0.below hbd.drew hRi
            have hc := ihf i hlt _ _ hRa (by have := HR.out; omega)
            have HS := Lib.hid (sizeF_take hlt)
            generalize sizeR (f[i]).2 = z at hc hsum hpos hge HS
            have HC := Lib.hid hc
            clear hge hc hRa
            go_wp2_with fail
            have hnb : ((f[i]).1.size : Int) ≤ 281474976710656 := by have := hfn i hlt; omega
            obtain ⟨ss, hss⟩ : ∃ ss, (f[i]).1 = ss := ⟨_, rfl⟩
            rw [hss] at e hsum hbd HC HS hnb ⊢
            clear hss
            have NM := Lib.hid (show (wr.alloc (.cells #[.string ss, .int .i64 vk, .int .u64 vn, .slice A1 n1 m1, .slice A2 n2 m2, .slice A3 n3 m3] 59)).drew.cell? ⟨wr.heap.size, 0, none⟩ = some (.string ss) from cell_blk (heap_alloc_new wr _) 0)
            have hw1 : IntKind.i64.wrap (1 + (ss.size : Int)) = 1 + (ss.size : Int) := by simp only [IntKind.wrap_i64]; omega
            have hw2 : IntKind.i64.wrap (1 + (ss.size : Int) + z) = 1 + (ss.size : Int) + z := by simp only [IntKind.wrap_i64]; omega
            have hw3 : IntKind.i64.wrap (y + (1 + (ss.size : Int) + z)) = y + (1 + (ss.size : Int) + z) := by simp only [IntKind.wrap_i64]; omega
            go_region_law (refine step_call1 48 rfl (.tmp 58) _ rfl rfl (enters_of Tryd.func48 (by kernel_rfl) rfl) HC.out ?_; intro w1 hb1; have nm := below_cell hb1 NM.out)
            all_goals
              have hb2 := (hbd.drew).trans (hb1.mono (Nat.le_of_lt (by simp)))
              clear nm hw1 hw2 hw3
              go_wp2_with fail
              go_roundg (gk - 1)
              case measure => omega
              case rel =>
                refine ⟨i + 1, _, by omega, by go_num, rfl, ?_, by omega, below_alloc_trans hbw hb2⟩
                have hw := HW.out
                have hs := HS.out
                omega
          · have hw := HW.out
            rw [List.take_of_length_le (by omega)] at hw
            have hr := HR.out
            rw [← hw] at hr
            subst hr
            clear hw HW HR
            go_wp2_with fail
            go_ret
            exact ⟨rfl, below_of_alloc hbw⟩
end Go.Proofs.YtljdfainnmpjnaaDoor

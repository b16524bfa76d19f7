/- The law ValWrites: Size, and the walk. -/
import Derived.Test.YtljdfainnmpjnaaDoorBack
import Derived.Test.YtljdfainnmpjnaaDoorOpenU
set_option linter.unusedVariables false
namespace Go.Proofs.YtljdfainnmpjnaaDoor
open Go.RowKit

theorem wt_enc (v : V) : (encR v).length + 1 ≤ 12 * v.wt := by
  induction v using V.ind0 with
  | h k n b l f ihl ihf =>
    have a : ∀ l : List V, (∀ v ∈ l, (encR v).length + 1 ≤ 12 * v.wt) → (encL l).length ≤ 12 * wtL l := fun l h => by
      induction l with
      | nil => simp [encL, wtL]
      | cons v r ih => have := h v (by simp); have := ih (fun x hx => h x (by simp [hx])); rw [encL, wtL, List.length_append]; omega
    have c : ∀ l : List (ByteArray × V), (∀ v ∈ l, (encR v.2).length + 1 ≤ 12 * v.2.wt) → (encF l).length ≤ 12 * wtF l := fun l h => by
      induction l with
      | nil => simp [encF, wtF]
      | cons v r ih =>
        obtain ⟨s, v⟩ := v
        have h1 := h (s, v) (by simp)
        have := ih (fun x hx => h x (by simp [hx]))
        have hs : s.data.toList.length = s.size := rfl
        rw [encF, wtF]
        simp only [List.length_cons, List.length_append, hs] at *
        omega
    have h1 := a l ihl
    have h2 := c f ihf
    rw [encR, V.wt]
    split
    · simp; omega
    split
    · simp [leBytes_length]; omega
    split
    · simp [leBytes_length]; omega
    split
    · simp; omega
    split
    · simp; omega
    · simp; omega

set_option maxRecDepth 100000 in
set_option maxHeartbeats 4000000 in
theorem sizeP_any (v : V) (cs : List Value) (w : World) (hT : Tabs w) (h : Rep0 w v cs) (hs : Small v) :
    Calls Tryd.prog 28 #[.agg cs.toArray] w fun e w' => e = .returned (.tuple #[.int .i64 (if goodR v = 0 then sizeR v else 0), .int .i64 (goodR v)]) ∧ Below w.heap.size w w' := by
  obtain ⟨k, n, b, l, f⟩ := v
  have hr' := h
  obtain ⟨AB, AL, AF, cb, cl, cf, L, F, rfl, -⟩ := h.inv
  clear h
  have HT := Lib.hid hT
  obtain ⟨v, hv⟩ : ∃ v, V.mk k n b l f = v := ⟨_, rfl⟩
  rw [hv] at hr' hs ⊢
  clear hv
  have b1 := (Below.refl w.heap.size w).alloc (Nat.le_refl _) (.cells #[.int .i64 k, .int .u64 n, .slice AB b.length cb, .slice AL l.length cl, .slice AF f.length cf] 27)
  have q1 := heap_alloc_new w (.cells #[.int .i64 k, .int .u64 n, .slice AB b.length cb, .slice AL l.length cl, .slice AF f.length cf] 27)
  have HR := Lib.hid (Rep0.below b1 hr')
  have HB1 := Lib.hid b1
  have HQ1 := Lib.hid q1
  have HS := Lib.hid hs
  clear hr' b1 q1 hT hs
  obtain ⟨G, hG⟩ : ∃ G, goodR v = G := ⟨_, rfl⟩
  rw [hG]
  have HG := Lib.hid hG
  obtain ⟨Y, hY⟩ : ∃ Y, (if G = 0 then sizeR v else 0) = Y := ⟨_, rfl⟩
  rw [hY]
  have HY := Lib.hid hY
  clear hG hY
  go_enter Tryd.func28, Tryd.ntmps28
  go_wp2_with fail
  generalize w.alloc _ = w1 at HR HB1 HQ1 ⊢
  refine (good_any v _ w1 (HT.out.below HB1.out) HR.out HS.out).mono ?_
  rintro e w2 ⟨rfl, hb2⟩
  rw [HG.out]
  have HB2 := Lib.hid (below_step HB1.out (Nat.le_refl _) hb2)
  have q2 := blk_below HQ1.out hb2
  have HR2 := Lib.hid (HR.out.below hb2)
  have a0 := cell_blk q2 0; have a1 := cell_blk q2 1; have a2 := cell_blk q2 2; have a3 := cell_blk q2 3; have a4 := cell_blk q2 4
  clear q2 hb2
  by_cases hg : G = 0
  · subst hg
    have hy := HY.out
    rw [if_pos rfl] at hy
    subst hy
    go_wp2_with fail
    refine (size_any v _ w2 HR2.out (HS.out.size (goodR_zero HG.out).1)).mono ?_
    rintro e w3 ⟨rfl, hb3⟩
    go_wp2_with fail
    go_ret2
    exact ⟨rfl, below_step HB2.out (Nat.le_refl _) hb3⟩
  · have hy := HY.out
    rw [if_neg hg] at hy
    subst hy
    have e1 : (G != 0) = true := by simpa using hg
    clear hg
    go_wp2_with fail
    go_ret2
    exact ⟨rfl, HB2.out⟩

set_option maxRecDepth 100000 in
set_option maxHeartbeats 4000000 in
theorem valWrites_any (v : V) (cs : List Value) (w : World) (hr : Rep0 w v cs) (hw : v.wt ≤ 1048576) (hT : Tabs w) :
    Calls Tryd.prog 7 #[.agg cs.toArray] w fun e w' => e = .returned (.bool true) ∧ Below w.heap.size w w' := by
  have hle : (encR v).length ≤ 70368744177664 := by have := wt_enc v; omega
  have HLE := Lib.hid hle
  clear hle hw
  obtain ⟨k, n, b, l, f⟩ := v
  have hr' := hr
  obtain ⟨AB, AL, AF, cb, cl, cf, L, F, rfl, -⟩ := hr.inv
  clear hr
  have HR := Lib.hid hr'
  have HT := Lib.hid hT
  clear hr' hT
  have b01 := (Below.refl w.heap.size w).alloc (Nat.le_refl _) (.cells #[.int .i64 k, .int .u64 n, .slice AB b.length cb, .slice AL l.length cl, .slice AF f.length cf] 27)
  have q1 := heap_alloc_new w (.cells #[.int .i64 k, .int .u64 n, .slice AB b.length cb, .slice AL l.length cl, .slice AF f.length cf] 27)
  have b12 := (Below.refl (w.alloc (.cells #[.int .i64 k, .int .u64 n, .slice AB b.length cb, .slice AL l.length cl, .slice AF f.length cf] 27)).heap.size (w.alloc (.cells #[.int .i64 k, .int .u64 n, .slice AB b.length cb, .slice AL l.length cl, .slice AF f.length cf] 27))).alloc (Nat.le_refl _) (.cells #[.int .i64 k, .int .u64 n, .slice AB b.length cb, .slice AL l.length cl, .slice AF f.length cf] 27)
  have HQ1 := Lib.hid q1
  have HB1 := Lib.hid b01
  clear b01 q1 b12
  go_enter Tryd.func7, Tryd.ntmps7
  go_upto_region 1 with fail
  generalize w.alloc _ = w1 at HQ1 HB1 ⊢
  have q1 := HQ1.out
  have a0 := cell_blk q1 0; have a1 := cell_blk q1 1; have a2 := cell_blk q1 2; have a3 := cell_blk q1 3; have a4 := cell_blk q1 4
  have b12 := (Below.refl w1.heap.size w1).alloc (Nat.le_refl _) (.cells #[.int .i64 k, .int .u64 n, .slice AB b.length cb, .slice AL l.length cl, .slice AF f.length cf] 27)
  have q2 := heap_alloc_new w1 (.cells #[.int .i64 k, .int .u64 n, .slice AB b.length cb, .slice AL l.length cl, .slice AF f.length cf] 27)
  have HV := Lib.hid (vast_any [.mk k n b l f] _ 1 _ _ ⟨by simp, by simp, by omega⟩ (reps_one q2 ((HR.out.below HB1.out).below b12)))
  have HB2 := Lib.hid (below_step HB1.out (Nat.le_refl _) b12)
  have HQ2 := Lib.hid (blk_below HQ1.out b12)
  clear q1 q2 b12
  go_wp2_with fail
  refine HV.out.mono ?_
  rintro e w4 ⟨rfl, hb4⟩
  have HB4 := Lib.hid (below_step HB2.out (Nat.le_refl _) hb4)
  have HQ4 := Lib.hid (blk_below HQ2.out hb4)
  clear a0 a1 a2 a3 a4 hb4 HV
  rcases hv : vastR [.mk k n b l f] with _ | _
  case true =>
    go_wp2_with fail
    go_ret
    exact ⟨rfl, HB4.out⟩
  have HS := Lib.hid (vast_small hv List.mem_cons_self HR.out)
  clear hv
  have HPV := Lib.hid (put_any (.mk k n b l f) _ w4 (HT.out.below HB4.out) (HR.out.below HB4.out) HS.out)
  have q4 := HQ4.out
  have a0 := cell_blk q4 0; have a1 := cell_blk q4 1; have a2 := cell_blk q4 2; have a3 := cell_blk q4 3; have a4 := cell_blk q4 4
  clear q4
  go_wp2_with fail
  refine HPV.out.mono ?_
  rintro e w5 ⟨t, pb, rfl, ho5, hb5, hz, hz2⟩
  obtain ⟨A1, c1, rfl, hc1, hc12, hr1⟩ := ho5.old
  have HB5 := Lib.hid (below_step HB4.out (Nat.le_refl _) hb5)
  have HQ5 := Lib.hid (blk_below HQ4.out hb5)
  have HR1 := Lib.hid hr1
  have HSZ := Lib.hid (sizeP_any (.mk k n b l f) _ w5 (HT.out.below HB5.out) (HR.out.below HB5.out) HS.out)
  have HNF := Lib.hid (fun h => sizeR_enc (.mk k n b l f) h)
  have HGZ := Lib.hid (fun h => goodR_zero (v := .mk k n b l f) h)
  have HRG := @Lib.hid _ (fun W (hb : Below w.heap.size w W) => refgood_any (.mk k n b l f) _ W (HR.out.below hb) HS.out.high HLE.out)
  have HGG := @Lib.hid _ (fun W (hb : Below w.heap.size w W) => good_any (.mk k n b l f) _ W (HT.out.below hb) (HR.out.below hb) HS.out)
  have HPP := @Lib.hid _ (fun W (hb : Below w.heap.size w W) => refput2_any (.mk k n b l f) _ W (HR.out.below hb) HLE.out)
  obtain ⟨G, hG⟩ : ∃ G, goodR (.mk k n b l f) = G := ⟨_, rfl⟩
  obtain ⟨E, hE⟩ : ∃ E, encR (.mk k n b l f) = E := ⟨_, rfl⟩
  obtain ⟨Z, hZ⟩ : ∃ Z, sizeR (.mk k n b l f) = Z := ⟨_, rfl⟩
  rw [hG] at hz hz2 HSZ HGZ HRG HGG ⊢
  rw [hE] at hz HNF HPP
  rw [hZ] at HSZ HNF
  have HZ1 := Lib.hid hz
  have HZ2 := Lib.hid hz2
  clear a0 a1 a2 a3 a4 hb5 ho5 hr1 hG hE hZ hz hz2 HPV
  have q5 := HQ5.out
  have a0 := cell_blk q5 0; have a1 := cell_blk q5 1; have a2 := cell_blk q5 2; have a3 := cell_blk q5 3; have a4 := cell_blk q5 4
  clear q5
  go_wp2_with fail
  refine HSZ.out.mono ?_
  rintro e w6 ⟨rfl, hb6⟩
  obtain ⟨Y, hY⟩ : ∃ Y, (if G = 0 then Z else 0) = Y := ⟨_, rfl⟩
  rw [hY]
  have HY := Lib.hid hY
  have HB6 := Lib.hid (below_step HB5.out (Nat.le_refl _) hb6)
  have HB56 := Lib.hid hb6
  have HQ6 := Lib.hid (blk_below HQ5.out hb6)
  clear a0 a1 a2 a3 a4 hb6 HSZ hY
  have q6 := HQ6.out
  have a0 := cell_blk q6 0; have a1 := cell_blk q6 1; have a2 := cell_blk q6 2; have a3 := cell_blk q6 3; have a4 := cell_blk q6 4
  clear q6
  go_wp2_with fail
  refine (HRG.out w6 HB6.out).mono ?_
  rintro e w7 ⟨rfl, hb7⟩
  have HB7 := Lib.hid (below_step HB6.out (Nat.le_refl _) hb7)
  have HB57 := Lib.hid (below_step HB56.out (Nat.le_refl _) hb7)
  have HQ7 := Lib.hid (blk_below HQ6.out hb7)
  clear a0 a1 a2 a3 a4 hb7
  have HAW := Lib.hid (awake_any w7 (HT.out.below HB7.out))
  go_wp2_with fail
  refine HAW.out.mono ?_
  rintro e w8 ⟨rfl, hb8⟩
  have HB8 := Lib.hid (below_step HB7.out (Nat.le_refl _) hb8)
  have HB58 := Lib.hid (below_step HB57.out (Nat.le_refl _) hb8)
  have HQ8 := Lib.hid (blk_below HQ7.out hb8)
  clear hb8 HAW
  have q8 := HQ8.out
  have a0 := cell_blk q8 0; have a1 := cell_blk q8 1; have a2 := cell_blk q8 2; have a3 := cell_blk q8 3; have a4 := cell_blk q8 4
  clear q8
  go_wp2_with fail
  refine (HGG.out w8 HB8.out).mono ?_
  rintro e w9 ⟨rfl, hb9⟩
  have HB9 := Lib.hid (below_step HB8.out (Nat.le_refl _) hb9)
  have HB59 := Lib.hid (below_step HB58.out (Nat.le_refl _) hb9)
  have HQ9 := Lib.hid (blk_below HQ8.out hb9)
  clear a0 a1 a2 a3 a4 hb9
  by_cases hg : G = 0
  · subst hg
    have hy := HY.out
    rw [if_pos rfl] at hy
    subst hy
    have hz := HZ1.out rfl
    subst hz
    have q9 := HQ9.out
    have a0 := cell_blk q9 0; have a1 := cell_blk q9 1; have a2 := cell_blk q9 2; have a3 := cell_blk q9 3; have a4 := cell_blk q9 4
    clear q9
    go_wp2_with fail
    refine (HPP.out w9 HB9.out).mono ?_
    rintro e w10 ⟨v10, rfl, ho10, hb10⟩
    obtain ⟨A10, c10, rfl, hc10, hc102, hr10⟩ := ho10.old
    have hcv1 := conv_str (c := c1) rfl (HR1.out.below (below_step HB59.out (Nat.le_refl _) hb10))
    have hcv2 := conv_str (c := c10) rfl hr10
    have hst : ((⟨pb.toArray⟩ : ByteArray).toList == (⟨pb.toArray⟩ : ByteArray).toList) = true := beq_self_eq_true _
    have hZ : Z = (pb.length : Int) := (HNF.out (HGZ.out (by first | rfl | trivial)).1).symm
    subst hZ
    clear a0 a1 a2 a3 a4 ho10 hr10 hc10 hc102
    go_wp2_with fail
    go_ret
    exact ⟨rfl, below_step HB9.out (Nat.le_refl _) hb10⟩
  · have hy := HY.out
    rw [if_neg hg] at hy
    subst hy
    have hz := HZ2.out hg
    subst hz
    have e1 : (G != 0) = true := by simpa using hg
    have e2 : (G == 0) = false := by simpa using hg
    clear hg
    go_wp2_with fail
    go_ret
    exact ⟨rfl, HB9.out⟩
end Go.Proofs.YtljdfainnmpjnaaDoor

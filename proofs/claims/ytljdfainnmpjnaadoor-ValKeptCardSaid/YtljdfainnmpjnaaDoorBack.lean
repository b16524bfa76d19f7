/- The law ValBack: the walk. -/
import Derived.Test.YtljdfainnmpjnaaDoorAwake
import Derived.Test.YtljdfainnmpjnaaDoorBackLaw
import Derived.Test.YtljdfainnmpjnaaDoorSmallLaw
set_option linter.unusedVariables false
namespace Go.Proofs.YtljdfainnmpjnaaDoor
open Go.RowKit

theorem reps_one {W : World} {b : Nat} {v : V} {c0 c1 c2 c3 c4 : Value} (hq : W.heap[b]? = some (.cells #[c0, c1, c2, c3, c4] 27 (0, 0))) (hr : Rep0 W v [c0, c1, c2, c3, c4]) : Reps W (Old W) (some ⟨b, 0, none⟩) [v] (fun _ => [c0, c1, c2, c3, c4]) := by
  have hlt : b < W.heap.size := (Array.getElem?_eq_some_iff.1 hq).1
  refine ⟨fun _ => ⟨b, 0, rfl, hlt, hlt, fun i hi => ⟨rfl, fun j hj => ?_⟩⟩, fun i hi => ?_⟩
  · obtain rfl : i = 0 := by simpa using hi
    rw [cell_blk hq]
    simp
  · obtain rfl : i = 0 := by simpa using hi
    exact hr

theorem run_less {w : World} {S : Nat → Prop} {A : Option Addr} {l : List UInt8} {c : Nat} (h : BRow w S A l) (z : Int) (hz : z = (l.length : Int) - 1) (h2 : 1 ≤ l.length) (hc : l.length ≤ c) :
    (∀ W, (Instr.slice 22 (.slice A l.length c) none (some (.int .i64 z)) none).run Tryd.prog W = .ok (.slice A l.dropLast.length c) W) ∧ BRow w S A l.dropLast := by
  subst hz
  obtain ⟨b, o, rfl, hS, hl, hcell⟩ := h.at (by omega)
  have hn : l.dropLast.length = l.length - 1 := by simp
  refine ⟨fun W => ?_, BRow.of hS hl fun i hi => ?_⟩
  · rw [run_slice_h W 22 (some ⟨b, o, none⟩) l.length c (by kernel_rfl) .i64 ((l.length : Int) - 1) (by omega) (by omega)]
    simp [go_sem, sliced]
  · rw [hcell i (by omega), List.dropLast_eq_take, getD_at (by omega), getD_at (by simp; omega), List.getElem_take]

theorem high_size (v : V) : (v.high : Int) ≤ sizeR v := by
  induction v using V.ind0 with
  | h k n b l f ihl ihf =>
    have a : ∀ l : List V, (∀ v ∈ l, (v.high : Int) ≤ sizeR v) → (highL l : Int) ≤ sizeL l ∧ 0 ≤ sizeL l := fun l h => by
      induction l with
      | nil => simp [sizeL, highL]
      | cons v r ih => have := h v (by simp); have := ih (fun x hx => h x (by simp [hx])); have := sizeR_pos v; rw [sizeL, highL]; omega
    have c : ∀ l : List (ByteArray × V), (∀ v ∈ l, (v.2.high : Int) ≤ sizeR v.2) → (highF l : Int) ≤ sizeF l ∧ 0 ≤ sizeF l := fun l h => by
      induction l with
      | nil => simp [sizeF, highF]
      | cons v r ih => obtain ⟨s, v⟩ := v; have := h (s, v) (by simp); have := ih (fun x hx => h x (by simp [hx])); have := sizeR_pos v; rw [sizeF, highF]; dsimp only at *; omega
    have := a l ihl
    have := c f ihf
    have := headN_pos k b
    rw [sizeR, V.high]
    omega
theorem small_good {v : V} (h : goodR v = 0) : Small v := by
  obtain ⟨hf, hl⟩ := goodR_zero h
  have := sizeR_enc v hf
  have := high_size v
  exact ⟨by omega, fun _ => by omega⟩
/-- Get, where the bytes are refused. -/
theorem get_fault (bs : List UInt8) (w : World) (A : Option Addr) (c : Nat) (hA : BRow0 w A bs) (hc : bs.length ≤ c) (hc2 : c ≤ 9223372036854775807) (hT : Tabs w) (h : (getV bs).2 ≠ 0) :
    Calls Tryd.prog 14 #[.slice A bs.length c] w fun e w' => ∃ r, e = .returned r ∧ ∃ AB AL AF cb cl cf, r = .tuple #[.agg #[.int .i64 0, .int .u64 0, .slice AB 0 cb, .slice AL 0 cl, .slice AF 0 cf], .int .i64 (getV bs).2] ∧
      Rep0 w' V0 [.int .i64 0, .int .u64 0, .slice AB 0 cb, .slice AL 0 cl, .slice AF 0 cf] ∧ Below w.heap.size w w' := by
  refine (get_any validC nameC bs w _ A c hA (fun k hk => hk) hc hc2 hT).mono ?_
  rintro e w' ⟨cs, rfl, hr, hb⟩
  rw [getV_fault h] at hr
  have hr' := hr.old
  obtain ⟨AB, AL, AF, cb, cl, cf, L, F, rfl, -⟩ := hr.inv
  exact ⟨_, rfl, AB, AL, AF, cb, cl, cf, rfl, hr', hb⟩

set_option maxRecDepth 100000 in
set_option maxHeartbeats 4000000 in
theorem valBack_any (v : V) (cs : List Value) (bs : List UInt8) (A : Option Addr) (c : Nat) (w : World) (hr : Rep0 w v cs) (hA : BRow0 w A bs) (hc : bs.length ≤ c) (hc2 : c ≤ 9223372036854775807) (hT : Tabs w) :
    Calls Tryd.prog 4 #[.agg cs.toArray, .slice A bs.length c] w fun e w' => e = .returned (.bool true) ∧ Below w.heap.size w w' := by
  obtain ⟨k, n, b, l, f⟩ := v
  have hr' := hr
  obtain ⟨AB, AL, AF, cb, cl, cf, L, F, rfl, -⟩ := hr.inv
  clear hr
  have HR := Lib.hid hr'
  have HA := Lib.hid hA
  have HT := Lib.hid hT
  clear hr' hA hT
  have b01 := (Below.refl w.heap.size w).alloc (Nat.le_refl _) (.cells #[.int .i64 k, .int .u64 n, .slice AB b.length cb, .slice AL l.length cl, .slice AF f.length cf] 27)
  have q1 := heap_alloc_new w (.cells #[.int .i64 k, .int .u64 n, .slice AB b.length cb, .slice AL l.length cl, .slice AF f.length cf] 27)
  have HQ1 := Lib.hid q1
  have HB1 := Lib.hid b01
  clear b01 q1
  go_enter Tryd.func4, Tryd.ntmps4
  go_wp2_with fail
  generalize w.alloc _ = w1 at HQ1 HB1 ⊢
  refine (awake_any w1 (HT.out.below HB1.out)).mono ?_
  rintro e w2 ⟨rfl, hb2⟩
  have HB2 := Lib.hid (below_step HB1.out (Nat.le_refl _) hb2)
  have q2 := blk_below HQ1.out hb2
  have HQ2 := Lib.hid q2
  have a0 := cell_blk q2 0; have a1 := cell_blk q2 1; have a2 := cell_blk q2 2; have a3 := cell_blk q2 3; have a4 := cell_blk q2 4
  have b23 := (Below.refl w2.heap.size w2).alloc (Nat.le_refl _) (.cells #[.int .i64 k, .int .u64 n, .slice AB b.length cb, .slice AL l.length cl, .slice AF f.length cf] 27)
  have q3 := heap_alloc_new w2 (.cells #[.int .i64 k, .int .u64 n, .slice AB b.length cb, .slice AL l.length cl, .slice AF f.length cf] 27)
  have HV := Lib.hid (vast_any [.mk k n b l f] _ 1 _ _ ⟨by simp, by simp, by omega⟩ (reps_one q3 ((HR.out.below HB2.out).below b23)))
  have HB3 := Lib.hid (below_step HB2.out (Nat.le_refl _) b23)
  have HQ3 := Lib.hid (blk_below q2 b23)
  clear q2 hb2 b23 q3
  go_wp2_with fail
  refine HV.out.mono ?_
  rintro e w4 ⟨rfl, hb4⟩
  have HB4 := Lib.hid (below_step HB3.out (Nat.le_refl _) hb4)
  have HQ4 := Lib.hid (blk_below HQ3.out hb4)
  clear a0 a1 a2 a3 a4 hb4 HV
  rcases hv : vastR [.mk k n b l f] with _ | _
  case true =>
    go_wp2_with fail
    go_ret
    exact ⟨rfl, HB4.out⟩
  have hs := vast_small hv List.mem_cons_self HR.out
  have HPV := Lib.hid (put_any (.mk k n b l f) _ w4 (HT.out.below HB4.out) (HR.out.below HB4.out) hs)
  have q4 := HQ4.out
  have a0 := cell_blk q4 0; have a1 := cell_blk q4 1; have a2 := cell_blk q4 2; have a3 := cell_blk q4 3; have a4 := cell_blk q4 4
  clear q4 hv hs
  go_wp2_with fail
  refine HPV.out.mono ?_
  rintro e w5 ⟨t, pb, rfl, ho5, hb5, hz, -⟩
  obtain ⟨A1, c1, rfl, hc1, hc12, hr1⟩ := ho5.old
  have HB5 := Lib.hid (below_step HB4.out (Nat.le_refl _) hb5)
  have HQ5 := Lib.hid (blk_below HQ4.out hb5)
  have HR1 := Lib.hid hr1
  obtain ⟨G, hG⟩ : ∃ G, goodR (.mk k n b l f) = G := ⟨_, rfl⟩
  rw [hG] at hz ⊢
  have HG := Lib.hid hG
  have HZ := Lib.hid hz
  clear a0 a1 a2 a3 a4 hb5 ho5 hr1 hG hz HPV
  by_cases hg : G = 0
  focus
    subst hg
    have hz := HZ.out rfl
    have hn := HR.out.nums
    have g1 := back_put hn HG.out
    have g2 := back_more hn HG.out 1
    have g3 := back_less hn HG.out
    have hp1 : 1 ≤ pb.length := by rw [hz, encR]; simp
    have hp2 : pb.length ≤ 4096 := by rw [hz]; exact (goodR_zero HG.out).2
    rw [← hz] at g1 g2 g3
    have HGP := Lib.hid (get_any validC nameC pb w5 _ A1 c1 HR1.out (fun k hk => hk) hc1 hc12 (HT.out.below HB5.out))
    have HG1 := Lib.hid g1
    have HG2 := Lib.hid g2
    have HG3 := Lib.hid g3
    clear g1 g2 g3 hn hz
    go_wp2_with fail
    refine HGP.out.mono ?_
    rw [HG1.out]
    rintro e w6 ⟨cs6, rfl, hr6, hb6⟩
    have hr6' := hr6.old
    obtain ⟨AB2, AL2, AF2, cb2, cl2, cf2, L2, F2, rfl, -⟩ := hr6.inv
    clear hr6
    dsimp only
    have b67 := (Below.refl w6.heap.size w6).alloc (Nat.le_refl _) (.cells #[.int .i64 k, .int .u64 n, .slice AB2 b.length cb2, .slice AL2 l.length cl2, .slice AF2 f.length cf2] 27)
    have q7 := heap_alloc_new w6 (.cells #[.int .i64 k, .int .u64 n, .slice AB2 b.length cb2, .slice AL2 l.length cl2, .slice AF2 f.length cf2] 27)
    have HR7 := Lib.hid (Rep0.below b67 hr6')
    have HB57 := Lib.hid (below_step hb6 (Nat.le_refl _) b67)
    have HX7 := Lib.hid q7
    clear hr6' b67 q7 hb6 HGP
    go_upto_region 8 with fail
    generalize w6.alloc _ = w7 at HR7 HB57 HX7 ⊢
    have ho8 : Own (w7.alloc (.cells #[] 5)) w7.heap.size (.slice (some ⟨w7.heap.size, 0, none⟩) 0 0) [] := Own.lit w7 w7.heap.size [] (Nat.le_refl _) (by simp)
    have HO8 := Lib.hid ho8
    clear ho8
    have HR17 := Lib.hid ((HR1.out.below HB57.out).below ((Below.refl w7.heap.size w7).alloc (Nat.le_refl _) (.cells #[] 5)))
    have HP2 := Lib.hid hp2
    clear hp2
    have c8 : ([] : List UInt8).length + pb.length ≤ 140737488355328 := by have := HP2.out; simp; omega
    have c9 : (([] : List UInt8) ++ pb).length + [(1 : UInt8)].length ≤ 140737488355328 := by have := HP2.out; simp; omega
    have C8 := Lib.hid c8
    have C9 := Lib.hid c9
    clear c8 c9
    go_wp2_with (at_builtin; first
      | (refine app_bytes rfl (.tmp 34) (.tmp 35) rfl w7.heap.size (.slice (some ⟨w7.heap.size, 0, none⟩) 0 0) [] rfl HO8.out A1 pb.length c1 pb rfl rfl HR17.out C8.out (by simp) ?_; intro v8 w8 ho8 hg8 hat8)
      | go_must (refine app_bytes rfl (.tmp 36) (.tmp 37) rfl w7.heap.size v8 ([] ++ pb) rfl (ho8.alloc _) _ _ _ [1] rfl rfl (brow_box w8 (fun _ => True) trivial 1 1 rfl) C9.out (by have := hg8.size; simp at this ⊢; omega) ?_; intro v9 w9 ho9 hg9 hat9; obtain ⟨A9, c9, rfl, hc9, hc92, hr9⟩ := ho9.old))
    have b78 : Below w7.heap.size w7 w8 := ((Below.refl w7.heap.size w7).alloc (Nat.le_refl _) (.cells #[] 5)).trans (below_of_grown hg8 _ (by simp) (fun k hk => by cases hk; exact Nat.le_refl _))
    have b79 : Below w7.heap.size w7 w9 := (b78.alloc b78.size (.cells #[.int .u8 1] 5)).trans (below_of_grown hg9 _ (by have := b78.size; simp; omega) (fun k hk => (ho8.lt k hk).1))
    have b59 := below_step HB57.out (Nat.le_refl _) b79
    have h14 := get_fault ([] ++ pb ++ [1]) w9 A9 c9 hr9 hc9 hc92 (HT.out.below (below_step HB5.out (Nat.le_refl _) b59)) (by simpa using HG2.out)
    simp only [List.nil_append, List.length_append, List.length_singleton] at h14
    refine h14.mono ?_
    rintro e w10 ⟨r10, rfl, AB10, AL10, AF10, cb10, cl10, cf10, rfl, hr10, hb10⟩
    have HB510 := Lib.hid (below_step b59 (Nat.le_refl _) hb10)
    have HX10 := Lib.hid (blk_below (blk_below HX7.out b79) hb10)
    have HR10 := Lib.hid ((HR7.out.below b79).below hb10)
    obtain ⟨G2, hG2⟩ : ∃ G2, (getV (pb ++ [1])).2 = G2 := ⟨_, rfl⟩
    have hn2 := HG2.out
    rw [hG2] at hn2 ⊢
    have b1011 := (Below.refl w10.heap.size w10).alloc (Nat.le_refl _) (.cells #[.int .i64 0, .int .u64 0, .slice AB10 0 cb10, .slice AL10 0 cl10, .slice AF10 0 cf10] 27)
    have HB511 := Lib.hid (below_step HB510.out (Nat.le_refl _) b1011)
    have HX11 := Lib.hid (blk_below HX10.out b1011)
    have HR11 := Lib.hid (HR10.out.below b1011)
    clear h14 hr10 hb10 b59 b79 b78 hr9 ho9 hg9 hat9 ho8 hg8 hat8 hG2 b1011 HR10 HX10 HB510 HR17 HO8 C8 C9 hc9 hc92
    go_wp2_with fail
    generalize w10.alloc _ = w11 at HX11 HR11 HB511 ⊢
    have hbl : BRow0 w5 A1 pb.dropLast := (run_less HR1.out ((pb.length : Int) - 1) rfl hp1 hc1).2
    have hdl : pb.dropLast.length = pb.length - 1 := by simp
    have h14 := get_fault pb.dropLast w11 A1 c1 (BRow0.below HB511.out hbl) (by omega) hc12 (HT.out.below (below_step HB5.out (Nat.le_refl _) HB511.out)) HG3.out
    rw [hdl] at h14
    refine h14.mono ?_
    rintro e w12 ⟨r12, rfl, AB12, AL12, AF12, cb12, cl12, cf12, rfl, hr12, hb12⟩
    obtain ⟨G3, hG3⟩ : ∃ G3, (getV pb.dropLast).2 = G3 := ⟨_, rfl⟩
    have hn3 := HG3.out
    rw [hG3] at hn3 ⊢
    have b1213 := (Below.refl w12.heap.size w12).alloc (Nat.le_refl _) (.cells #[.int .i64 0, .int .u64 0, .slice AB12 0 cb12, .slice AL12 0 cl12, .slice AF12 0 cf12] 27)
    have b1113 := below_step hb12 (Nat.le_refl _) b1213
    have b513 := below_step HB511.out (Nat.le_refl _) b1113
    have HB13 := Lib.hid (below_step HB5.out (Nat.le_refl _) b513)
    have hR13 := HR11.out.below b1113
    have hRv := HR.out.below HB13.out
    have q13 := blk_below HQ5.out b513
    have z13 := blk_below HX11.out b1113
    have hS := lawsame_any (.mk k n b l f) (.mk k n b l f) _ _ _ hR13 hRv
    rw [sameR_refl] at hS
    have HS := Lib.hid hS
    have a0 := cell_blk q13 0; have a1 := cell_blk q13 1; have a2 := cell_blk q13 2; have a3 := cell_blk q13 3; have a4 := cell_blk q13 4
    have z0 := cell_blk z13 0; have z1 := cell_blk z13 1; have z2 := cell_blk z13 2; have z3 := cell_blk z13 3; have z4 := cell_blk z13 4
    have e2 : (G2 == 0) = false := by simpa using hn2
    have e3 : (G3 == 0) = false := by simpa using hn3
    clear h14 hr12 hb12 hG3 hbl b1213 b1113 b513 hR13 hRv q13 z13 hS hn2 hn3 hp1 hdl HB511 HX11 HR11 HR7 HX7 HB57 HR1 HG1 HG2 HG3 HP2 HZ
    go_wp2_with fail
    generalize w12.alloc _ = w13 at HB13 HS a0 a1 a2 a3 a4 z0 z1 z2 z3 z4 ⊢
    refine HS.out.mono ?_
    rintro e w14 ⟨rfl, hb14⟩
    have HBW := Lib.hid (below_step HB13.out (Nat.le_refl _) hb14)
    clear a0 a1 a2 a3 a4 z0 z1 z2 z3 z4 hb14 HS HB13
    go_wp2_with fail
  rotate_left
  focus
    have e1 : (G == 0) = false := by simpa using hg
    have HBW := HB5
    clear hg HR1 HZ
    go_wp2_with fail
  all_goals
    refine (get_any validC nameC bs _ _ A c (HA.out.below HBW.out) (fun k hk => hk) hc hc2 (HT.out.below HBW.out)).mono ?_
    obtain ⟨g, hgv⟩ : ∃ g, getV bs = g := ⟨_, rfl⟩
    rw [hgv]
    have HGV := Lib.hid hgv
    clear hgv
    rintro e w20 ⟨cs20, rfl, hr20, hb20⟩
    obtain ⟨⟨k2, n2, b2, l2, f2⟩, E⟩ := g
    dsimp only at hr20 ⊢
    have hr20' := hr20.old
    obtain ⟨AB5, AL5, AF5, cb5, cl5, cf5, L5, F5, rfl, -⟩ := hr20.inv
    clear hr20
    have b2021 := (Below.refl w20.heap.size w20).alloc (Nat.le_refl _) (.cells #[.int .i64 k2, .int .u64 n2, .slice AB5 b2.length cb5, .slice AL5 l2.length cl5, .slice AF5 f2.length cf5] 27)
    have q21 := heap_alloc_new w20 (.cells #[.int .i64 k2, .int .u64 n2, .slice AB5 b2.length cb5, .slice AL5 l2.length cl5, .slice AF5 f2.length cf5] 27)
    have HB21 := Lib.hid (below_step (below_step HBW.out (Nat.le_refl _) hb20) (Nat.le_refl _) b2021)
    have HQ21 := Lib.hid q21
    have HR21 := Lib.hid (Rep0.below b2021 hr20')
    clear b2021 q21 hr20' hb20
    by_cases hE : E = 0
    · subst hE
      obtain ⟨hg1, hg2, hg3⟩ := back_get HGV.out
      have HE1 := Lib.hid hg1
      have HE2 := Lib.hid hg2
      have q21 := HQ21.out
      have a0 := cell_blk q21 0; have a1 := cell_blk q21 1; have a2 := cell_blk q21 2; have a3 := cell_blk q21 3; have a4 := cell_blk q21 4
      clear hg1 hg2 hg3 q21
      go_wp2_with fail
      generalize w20.alloc _ = w21 at HB21 HQ21 HR21 a0 a1 a2 a3 a4 ⊢
      have HS5 := small_good HE2.out
      refine (put_any _ _ w21 (HT.out.below HB21.out) HR21.out HS5).mono ?_
      rintro e w22 ⟨t2, pb2, rfl, ho22, hb22, hz22, -⟩
      rw [HE2.out]
      obtain ⟨A22, c22, rfl, hc22, hc222, hr22⟩ := ho22.old
      have hpb := (hz22 HE2.out).trans HE1.out
      rw [hpb] at hr22 ⊢
      have HB22 := Lib.hid (below_step HB21.out (Nat.le_refl _) hb22)
      have q22 := blk_below HQ21.out hb22
      have hR22 := HR21.out.below hb22
      have hgd := good_any _ _ w22 (HT.out.below HB22.out) hR22 HS5
      rw [HE2.out] at hgd
      have HGD := Lib.hid hgd
      have hcv1 := conv_str (c := c22) rfl hr22
      have hcv2 := conv_str (c := c) rfl (HA.out.below HB22.out)
      have hst : ((⟨bs.toArray⟩ : ByteArray).toList == (⟨bs.toArray⟩ : ByteArray).toList) = true := beq_self_eq_true _
      clear a0 a1 a2 a3 a4 hgd hR22 hr22 hpb hz22 hb22 ho22 HS5 hc22 hc222
      have a0 := cell_blk q22 0; have a1 := cell_blk q22 1; have a2 := cell_blk q22 2; have a3 := cell_blk q22 3; have a4 := cell_blk q22 4
      clear q22
      go_wp2_with fail
      refine HGD.out.mono ?_
      rintro e w23 ⟨rfl, hb23⟩
      go_wp2_with fail
      go_ret
      exact ⟨rfl, below_step HB22.out (Nat.le_refl _) hb23⟩
    · have e9 : (E != 0) = true := by simpa using hE
      have hv0 : V.mk k2 n2 b2 l2 f2 = V0 := by have := getV_fault (bs := bs) (by rw [HGV.out]; exact hE); rwa [HGV.out] at this
      have q21 := HQ21.out
      have a0 := cell_blk q21 0; have a1 := cell_blk q21 1; have a2 := cell_blk q21 2; have a3 := cell_blk q21 3; have a4 := cell_blk q21 4
      have HZ9 := Lib.hid (zero_any _ _ _ HR21.out)
      clear hE q21
      go_wp2_with fail
      generalize w20.alloc _ = w21 at HB21 HQ21 HR21 HZ9 a0 a1 a2 a3 a4 ⊢
      refine HZ9.out.mono ?_
      rintro e w22 ⟨rfl, hb22⟩
      have hsv : sameR (V.mk k2 n2 b2 l2 f2) V.zero = true := by rw [hv0]; exact sameR_refl V.zero
      rw [hsv]
      go_wp2_with fail
      go_ret
      exact ⟨rfl, below_step HB21.out (Nat.le_refl _) hb22⟩
end Go.Proofs.YtljdfainnmpjnaaDoor

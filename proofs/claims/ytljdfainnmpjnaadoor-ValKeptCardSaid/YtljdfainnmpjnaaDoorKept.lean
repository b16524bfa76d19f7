/- The law ValKept: the walk. -/
import Derived.Test.YtljdfainnmpjnaaDoorSpoilW
import Derived.Test.YtljdfainnmpjnaaDoorBack
set_option linter.unusedVariables false
set_option linter.unusedSimpArgs false
namespace Go.Proofs.YtljdfainnmpjnaaDoor
open Go.RowKit

theorem Spoils.keeps {base lim : Nat} {w w' : World} (h : Spoils base lim w w') : Keeps (fun k => ¬ (base ≤ k ∧ k < lim)) w w' := ⟨h.size, fun k hk hl => h.block k hl hk⟩
/-- What lies below base is as it was. -/
theorem Spoils.low {base lim : Nat} {w w' : World} (h : Spoils base lim w w') (hb : base ≤ w.heap.size) : Below base w w' := ⟨h.os, h.tape, h.output, h.size, fun k hk => h.block k (Nat.lt_of_lt_of_le hk hb) (by omega)⟩
theorem below_spoils {B base lim : Nat} {w w1 w2 : World} (h : Below B w w1) (h' : Spoils base lim w1 w2) (hB : B ≤ base) (hl : base ≤ w1.heap.size) : Below B w w2 := h.trans ((h'.low hl).mono hB)
/-- c[:n+1] -/
theorem run_more {A : Option Addr} {n c : Nat} (hc : n + 1 ≤ c) (z : Int) (hz : z = (n : Int) + 1) :
    ∀ W : World, (Instr.slice 22 (.slice A n c) none (some (.int .i64 z)) none).run Tryd.prog W = .ok (.slice A (n + 1) c) W := by
  subst hz
  intro W
  rw [run_slice_h W 22 A n c (by kernel_rfl) .i64 ((n : Int) + 1) (by omega) (by omega)]
  simp [go_sem, sliced]

section
variable {ops : Array Oper} {rest : List Oper} {o : Oper} {a : Act} {Q : Exit → Act → World → Prop} {w : World}
/-- A conversion at a step of a region that draws its order. -/
theorem step_conv {K : Act → World → Prop} {E : Prop} (hgd : Region.wanted o (yielded ops a.tmps) = true) (x : Operand) (ho : o.op = .convert 22 9 x) {p v : Value} (hx : a.eval x = p) (h : (convert 22 9 p).run Tryd.prog w = .ok v w) (hK : K (a.put o.dst v) w) :
    if Region.wanted o (yielded ops a.tmps) = true then Oper.wp Tryd.prog o a w K Q else E := by
  rw [if_pos hgd]
  unfold Oper.wp execOp
  simp [ho, hx, h, Result.andThen]
  exact hK
end
/-- A stronger condition on the world, from here on. -/
theorem wpAnyH_mono {P : Program} {md : Region.Mode} {ops : Array Oper} {Q : Exit → Act → World → Prop} {S S' : World → Prop} (h : ∀ W, S' W → S W) : ∀ (fuel : Nat) (listed : Array Bool) (a : Act) (w : World),
    wpAnyH P md ops Q S' fuel listed a w → wpAnyH P md ops Q S fuel listed a w
  | 0, _, _, _, H => H
  | fuel + 1, _, _, _, H => ⟨H.1, fun i hi => wpOp_mono (fun a' w' h' => ⟨h _ h'.1, wpAnyH_mono h fuel _ a' w' h'.2⟩) (H.2 i hi)⟩
set_option maxRecDepth 100000 in
set_option maxHeartbeats 3000000 in
theorem valKept_any (v : V) (cs : List Value) (bs : List UInt8) (A : Option Addr) (c : Nat) (w : World) (hr : Rep0 w v cs) (hA : BRow0 w A bs) (hc : bs.length ≤ c) (hc2 : c ≤ 9223372036854775807) (hbs : bs.length ≤ 140737488351232) (hT : Tabs w) :
    Calls Tryd.prog 5 #[.agg cs.toArray, .slice A bs.length c] w fun e w' => e = .returned (.bool true) ∧ Below w.heap.size w w' := by
  obtain ⟨k, n, b, l, f⟩ := v
  have hr' := hr
  obtain ⟨AB, AL, AF, cb, cl, cf, L, F, rfl, -⟩ := hr.inv
  clear hr
  have HR := Lib.hid hr'
  have HA := Lib.hid hA
  have HT := Lib.hid hT
  clear hr' hA hT
  have b01 := (Below.refl w.heap.size w).alloc (Nat.le_refl _) (.cells #[.int .i64 k, .int .u64 n, .slice AB b.length cb, .slice AL l.length cl, .slice AF f.length cf] 27)
  have q1 := heap_alloc_new w (.cells #[.int .i64 k, .int .u64 n, .slice AB b.length cb, .slice AL l.length cl, .slice AF f.length cf] 27)
  obtain ⟨P, hP⟩ : ∃ P, P = w.heap.size := ⟨_, rfl⟩
  rw [← hP] at q1
  have HQ1 := Lib.hid q1
  have HB1 := Lib.hid b01
  have HP := Lib.hid hP
  clear b01 q1 hP
  go_enter Tryd.func5, Tryd.ntmps5
  go_wp2_with fail
  rw [← HP.out]
  generalize w.alloc _ = w1 at HQ1 HB1 ⊢
  refine (awake_any w1 (HT.out.below HB1.out)).mono ?_
  rintro e w2 ⟨rfl, hb2⟩
  have HB2 := Lib.hid (below_step HB1.out (Nat.le_refl _) hb2)
  have q2 := blk_below HQ1.out hb2
  have HQ2 := Lib.hid q2
  have a0 := cell_blk q2 0; have a1 := cell_blk q2 1; have a2 := cell_blk q2 2; have a3 := cell_blk q2 3; have a4 := cell_blk q2 4
  have b23 := (Below.refl w2.heap.size w2).alloc (Nat.le_refl _) (.cells #[.int .i64 k, .int .u64 n, .slice AB b.length cb, .slice AL l.length cl, .slice AF f.length cf] 27)
  have q3 := heap_alloc_new w2 (.cells #[.int .i64 k, .int .u64 n, .slice AB b.length cb, .slice AL l.length cl, .slice AF f.length cf] 27)
  have HV := Lib.hid (vast_any [.mk k n b l f] _ 1 _ _ ⟨by simp, by simp, by omega⟩ (reps_one q3 ((HR.out.below HB2.out).below b23)))
  have HB3 := Lib.hid (below_step HB2.out (Nat.le_refl _) b23)
  have HQ3 := Lib.hid (blk_below q2 b23)
  clear q2 hb2 b23 q3
  go_wp2_with fail
  refine HV.out.mono ?_
  rintro e w4 ⟨rfl, hb4⟩
  have HB4 := Lib.hid (below_step HB3.out (Nat.le_refl _) hb4)
  have HQ4 := Lib.hid (blk_below HQ3.out hb4)
  clear a0 a1 a2 a3 a4 hb4 HV HB2 HB3 HQ2 HQ3
  rcases hv : vastR [.mk k n b l f] with _ | _
  case true =>
    go_wp2_with fail
    go_ret
    exact ⟨rfl, HB4.out⟩
  have HSM := Lib.hid (vast_small hv List.mem_cons_self HR.out)
  clear hv
  go_upto_region 5 with fail
  -- c
  have HO8 := Lib.hid (show Own (w4.alloc (.cells #[] 5)) w4.heap.size (.slice (some ⟨w4.heap.size, 0, none⟩) 0 0) [] from Own.lit w4 w4.heap.size [] (Nat.le_refl _) (by simp))
  have HA4 := Lib.hid ((HA.out.below HB4.out).below ((Below.refl w4.heap.size w4).alloc (Nat.le_refl _) (.cells #[] 5)))
  have C8 := Lib.hid (show ([] : List UInt8).length + bs.length ≤ 140737488355328 by simp; omega)
  have C9 := Lib.hid (show (([] : List UInt8) ++ bs).length + [(201 : UInt8)].length ≤ 140737488355328 by simp; omega)
  have HSL := @Lib.hid _ (fun (W : World) (S : Nat → Prop) (A : Option Addr) (c : Nat) (h : BRow W S A (([] ++ bs) ++ [201])) (hc : (([] ++ bs) ++ [201]).length ≤ c) => run_less h (bs.length : Int) (by simp) (by simp) hc)
  go_upto_region 6 with (at_builtin; first
    | (refine app_bytes rfl (.tmp 22) (.tmp 23) rfl w4.heap.size (.slice (some ⟨w4.heap.size, 0, none⟩) 0 0) [] rfl HO8.out A bs.length c bs rfl rfl HA4.out C8.out (by simp) ?_; intro v8 w8 ho8 hg8 hat8)
    | go_must (refine app_bytes rfl (.tmp 24) (.tmp 25) rfl w4.heap.size v8 ([] ++ bs) rfl (ho8.alloc _) _ _ _ [201] rfl rfl (brow_box w8 (fun _ => True) trivial 201 201 rfl) C9.out (by have := hg8.size; simp at this ⊢; omega) ?_; intro v9 w9 ho9 hg9 hat9; obtain ⟨A9, c9, rfl, hc9, hc92, hr9⟩ := ho9.old; obtain ⟨hs1, hs2⟩ := HSL.out w9 _ A9 c9 hr9 hc9; simp only [List.nil_append, List.length_append, List.length_singleton, List.dropLast_concat] at hs1 hs2))
  have h48 : Below w4.heap.size w4 w8 := ((Below.refl w4.heap.size w4).alloc (Nat.le_refl _) (.cells #[] 5)).trans (below_of_grown hg8 _ (by simp) (fun k hk => by cases hk; exact Nat.le_refl _))
  have h49 : Below w4.heap.size w4 w9 := (h48.alloc h48.size (.cells #[.int .u8 201] 5)).trans (below_of_grown hg9 _ (by have := h48.size; simp; omega) (fun k hk => (ho8.lt k hk).1))
  have HB9 := Lib.hid (below_step HB4.out (Nat.le_refl _) h49)
  have HQ9 := Lib.hid (blk_below HQ4.out h49)
  have hcl : bs.length + 1 ≤ c9 := by simpa using hc9
  simp only [List.nil_append] at hr9
  have HC9 := Lib.hid hr9
  have HS9 := Lib.hid hs2
  have HMORE := Lib.hid (run_more (A := A9) hcl ((bs.length : Int) + 1) rfl)
  have HCL := Lib.hid hcl
  have HC92 := Lib.hid hc92
  have HG9 := Lib.hid (get_anyT validC nameC bs w9 _ A9 c9 hs2 (fun k hk => hk) (by omega) hc92 (HT.out.below HB9.out))
  obtain ⟨g, hgv⟩ : ∃ g, getV bs = g := ⟨_, rfl⟩
  rw [hgv] at HG9
  have HGV := Lib.hid hgv
  clear h48 h49 ho8 hg8 hat8 ho9 hg9 hat9 hs1 hs2 hr9 hc9 hc92 hcl HO8 HA4 C8 C9 HSL hgv
  -- the first Get
  go_wp2_with fail
  refine HG9.out.mono ?_
  rintro e w10 ⟨cs6, rfl, hr6, hb6⟩
  obtain ⟨⟨kx, nx, bx, lx, fx⟩, E⟩ := g
  dsimp only at hr6 ⊢
  have hr6' := hr6
  obtain ⟨AB2, AL2, AF2, cb2, cl2, cf2, L2, F2, rfl, -⟩ := hr6.inv
  clear hr6
  obtain ⟨xb, hxb⟩ : ∃ n, bx.length = n := ⟨_, rfl⟩
  obtain ⟨xl, hxl⟩ : ∃ n, lx.length = n := ⟨_, rfl⟩
  obtain ⟨xf, hxf⟩ : ∃ n, fx.length = n := ⟨_, rfl⟩
  rw [hxb, hxl, hxf] at hr6' ⊢
  obtain ⟨X, hX⟩ : ∃ X, V.mk kx nx bx lx fx = X := ⟨_, rfl⟩
  rw [hX] at hr6' HGV
  have HXB := Lib.hid hxb
  have HXL := Lib.hid hxl
  have HXF := Lib.hid hxf
  have HXX := Lib.hid hX
  have HX10 := Lib.hid (hr6'.mono (S' := fun k => w9.heap.size ≤ k ∧ k < w10.heap.size) (fun k hk h => ⟨h, hk⟩))
  have b1011 := (Below.refl w10.heap.size w10).alloc (Nat.le_refl _) (.cells #[.int .i64 kx, .int .u64 nx, .slice AB2 xb cb2, .slice AL2 xl cl2, .slice AF2 xf cf2] 27)
  have q11 := heap_alloc_new w10 (.cells #[.int .i64 kx, .int .u64 nx, .slice AB2 xb cb2, .slice AL2 xl cl2, .slice AF2 xf cf2] 27)
  have HB911 := Lib.hid (below_step hb6 (Nat.le_refl _) b1011)
  have HQ11 := Lib.hid q11
  have HB1011 := Lib.hid b1011
  have HLIM := Lib.hid (show w9.heap.size ≤ w10.heap.size from hb6.size)
  clear hxb hxl hxf hX hr6' b1011 q11 hb6 HG9
  go_upto_region 7 with fail
  obtain ⟨lim, hlim⟩ : ∃ lim, lim = w10.heap.size := ⟨_, rfl⟩
  rw [← hlim] at HX10 HQ11 HLIM HB1011 ⊢
  have HLS := Lib.hid (show lim ≤ (w10.alloc (.cells #[.int .i64 kx, .int .u64 nx, .slice AB2 xb cb2, .slice AL2 xl cl2, .slice AF2 xf cf2] 27)).heap.size by simp; omega)
  generalize w10.alloc _ = w11 at HB911 HQ11 HB1011 HLS ⊢
  -- the second Get
  have HG11 := Lib.hid (get_any validC nameC bs w11 _ A9 c9 (BRow0.below HB911.out HS9.out) (fun k hk => hk) (by have := HCL.out; omega) HC92.out (HT.out.below (below_step HB9.out (Nat.le_refl _) HB911.out)))
  rw [HGV.out] at HG11
  clear hlim
  go_wp2_with fail
  refine HG11.out.mono ?_
  rintro e w12 ⟨cs12, rfl, hr12, hb12⟩
  dsimp only at hr12 ⊢
  have hr12' := hr12
  rw [← HXX.out] at hr12
  obtain ⟨AB3, AL3, AF3, cb3, cl3, cf3, L3, F3, rfl, -⟩ := hr12.inv
  clear hr12
  rw [HXB.out, HXL.out, HXF.out] at hr12' ⊢
  have b1213 := (Below.refl w12.heap.size w12).alloc (Nat.le_refl _) (.cells #[.int .i64 kx, .int .u64 nx, .slice AB3 xb cb3, .slice AL3 xl cl3, .slice AF3 xf cf3] 27)
  have q13 := heap_alloc_new w12 (.cells #[.int .i64 kx, .int .u64 nx, .slice AB3 xb cb3, .slice AL3 xl cl3, .slice AF3 xf cf3] 27)
  have b1113 := below_step hb12 (Nat.le_refl _) b1213
  have HB913 := Lib.hid (below_step HB911.out (Nat.le_refl _) b1113)
  have HQ13 := Lib.hid q13
  have HQX := Lib.hid (blk_below HQ11.out b1113)
  have HY13 := Lib.hid ((hr12'.kept (Keeps.of_below b1213 _ (fun k hk _ => hk))).mono (S' := fun k => ¬ (w9.heap.size ≤ k ∧ k < lim)) (fun k _ h => by have := HLS.out; omega))
  have hwf := TRep.wf (HX10.out.kept (Keeps.of_below (B := lim) (HB1011.out.trans (b1113.mono HLS.out)) _ (fun k _ h => h.2)))
  have HLS13 := Lib.hid (show lim ≤ w12.heap.size from Nat.le_trans HLS.out hb12.size)
  obtain ⟨d, hwf⟩ := hwf
  have HWF := Lib.hid hwf
  clear hr12' b1213 q13 b1113 hb12 HG11 hwf HX10 HB911 HQ11 HB1011
  go_upto_region 8 with fail
  obtain ⟨P8, hP8⟩ : ∃ p, p = w12.heap.size := ⟨_, rfl⟩
  rw [← hP8] at HQ13 HLS13 ⊢
  clear hP8
  generalize w12.alloc _ = w13 at HB913 HQ13 HQX HY13 HWF ⊢
  -- spoil
  have hlt8 := (Array.getElem?_eq_some_iff.1 HQ13.out).1
  have HSP := Lib.hid (spoil_any w9.heap.size lim d _ w13 HWF.out (by have := HLS13.out; omega))
  have qx := HQX.out
  have x0 := cell_blk qx 0; have x1 := cell_blk qx 1; have x2 := cell_blk qx 2; have x3 := cell_blk qx 3; have x4 := cell_blk qx 4
  clear qx hlt8
  go_wp2_with fail
  refine HSP.out.mono ?_
  rintro e w14 ⟨rfl, hsp⟩
  have HB914 := Lib.hid (below_spoils HB913.out hsp (Nat.le_refl _) HB913.out.size)
  have HB14 := Lib.hid (below_step HB9.out (Nat.le_refl _) HB914.out)
  have HQ14 := Lib.hid (hsp.blk HQ13.out HLS13.out)
  have HY14 := Lib.hid ((HY13.out.kept hsp.keeps).old)
  have HQP14 := Lib.hid (blk_below HQ9.out HB914.out)
  clear x0 x1 x2 x3 x4 hsp HSP HB913 HQ13 HQX HY13 HWF
  -- the two Puts
  have HPV := Lib.hid (put_any (.mk k n b l f) _ w14 (HT.out.below HB14.out) (HR.out.below HB14.out) HSM.out)
  have qp := HQP14.out
  have a0 := cell_blk qp 0; have a1 := cell_blk qp 1; have a2 := cell_blk qp 2; have a3 := cell_blk qp 3; have a4 := cell_blk qp 4
  clear qp
  go_wp2_with fail
  refine HPV.out.mono ?_
  rintro e w15 ⟨t1, pb, rfl, ho15, hb15, hz15, hy15⟩
  have HB1415 := Lib.hid hb15
  have HPV2 := Lib.hid (put_any (.mk k n b l f) _ w15 (HT.out.below (below_step HB14.out (Nat.le_refl _) hb15)) (HR.out.below (below_step HB14.out (Nat.le_refl _) hb15)) HSM.out)
  have qp := blk_below HQP14.out hb15
  clear a0 a1 a2 a3 a4
  have a0 := cell_blk qp 0; have a1 := cell_blk qp 1; have a2 := cell_blk qp 2; have a3 := cell_blk qp 3; have a4 := cell_blk qp 4
  have HGZ := Lib.hid (fun h => goodR_zero (v := .mk k n b l f) h)
  have HPP := @Lib.hid _ (fun W (hb : Below w.heap.size w W) h => refput2_any (.mk k n b l f) _ W (HR.out.below hb) h)
  obtain ⟨G, hG⟩ : ∃ G, goodR (.mk k n b l f) = G := ⟨_, rfl⟩
  obtain ⟨EN, hEN⟩ : ∃ EN, encR (.mk k n b l f) = EN := ⟨_, rfl⟩
  have HGE := Lib.hid hG
  have HEN := Lib.hid hEN
  rw [hG] at hz15 hy15 HGZ ⊢
  rw [hEN] at hz15 HGZ HPP
  obtain ⟨A1, c1, rfl, hc1, hc12, hr1⟩ := ho15.old
  have HO15 := Lib.hid ho15
  have hpl : pb.length ≤ 9223372036854775807 := Nat.le_trans hc1 hc12
  clear hG hEN hr1 hc1 hc12 ho15 HPV qp hb15
  go_wp2_with fail
  refine HPV2.out.mono ?_
  rintro e w16 ⟨t2, qb, rfl, ho16, hb16, hz16, hy16⟩
  rw [HGE.out] at hz16 hy16 ⊢
  rw [HEN.out] at hz16
  have HQB := Lib.hid (show qb = pb by
    by_cases h : G = 0
    · rw [hz16 h, hz15 h]
    · rw [hy16 h, hy15 h])
  obtain ⟨A2, c2, rfl, hc2', hc22, hr2⟩ := ho16.row (fun k => ¬ (w14.heap.size ≤ k ∧ k < w15.heap.size)) (fun k hk => by have := (ho16.lt k hk).1; omega)
  have HQR := Lib.hid hr2
  have HZ := Lib.hid hz15
  have HB1416 := Lib.hid (below_step HB1415.out (Nat.le_refl _) hb16)
  have hown : 0 < pb.length → ∃ g cur, A1 = some ⟨g, 0, none⟩ ∧ w14.heap.size ≤ g ∧ g < w15.heap.size ∧ w16.heap[g]? = some (.cells cur 5 (0, 0)) ∧ pb.length ≤ cur.size := fun h0 => by
    have hlen := HO15.out.1
    rcases HO15.out.2 with ⟨h1, h2⟩ | ⟨g, cap, cur, h1, hb, hg, hnc, hcm, hsz, htake⟩
    · simp [bcells] at hlen h2
      subst h2
      simp at h0
    · cases h1
      refine ⟨g, cur, rfl, hb, (Array.getElem?_eq_some_iff.1 hg).1, blk_below hg hb16, ?_⟩
      have := congrArg List.length htake
      rw [List.length_take, bcells_length] at this
      simp at this
      omega
  have HOW := Lib.hid hown
  clear ho16 hz16 hy16 hz15 hy15 hb16 hr2 hown a0 a1 a2 a3 a4 HPV2 hc2' hc22
  go_wp2_with fail
  go_loopg [14] pb.length (fun g t14 wr => ∃ i : Nat, i ≤ pb.length ∧ t14 = .int .i64 i ∧ pb.length ≤ i + g ∧ Spoils w14.heap.size w15.heap.size w16 wr ∧ (0 < pb.length → ∃ g cur, A1 = some ⟨g, 0, none⟩ ∧ w14.heap.size ≤ g ∧ g < w15.heap.size ∧ wr.heap[g]? = some (.cells cur 5 (0, 0)) ∧ pb.length ≤ cur.size))
  case atStart => exact ⟨0, by omega, rfl, by omega, Spoils.refl _ _ _, HOW.out⟩
  case round =>
    obtain ⟨i, hi, rfl, hg, hsp, how⟩ := hrel
    by_cases hlt : i < pb.length
    · obtain ⟨g1, cur, rfl, hg1, hg2, hblk, hsz⟩ := how (by omega)
      obtain ⟨x, hx⟩ : ∃ x, cur[i]? = some x := ⟨cur[i]'(by omega), by simp⟩
      have cx := cell_blk hblk i
      rw [hx] at cx
      have fx := frozen_blk hblk i
      have hs := hsp.trans (spoils_byte (j := i) hblk ⟨hg1, hg2⟩ (.int .u8 99))
      have hb := set_blk hblk i (.int .u8 99)
      have HSP := Lib.hid hs
      have HBL := Lib.hid hb
      clear hs hblk hx hb hsp how
      go_wp2_with fail
      go_roundg (gk - 1)
      case measure => omega
      case rel => exact ⟨i + 1, by omega, by go_num, by omega, HSP.out, fun _ => ⟨g1, _, rfl, hg1, hg2, HBL.out, by simp; omega⟩⟩
    · obtain rfl : i = pb.length := Nat.le_antisymm hi (Nat.le_of_not_lt hlt)
      have HB1417 := Lib.hid (show Below w14.heap.size w14 wr from below_spoils HB1416.out hsp (Nat.le_refl _) HB1416.out.size)
      have HB17 := Lib.hid (below_step HB14.out (Nat.le_refl _) HB1417.out)
      have HQ17 := Lib.hid ((HQR.out.kept hsp.keeps).old)
      clear hsp how HOW HQR
      -- the last Get
      have HG17 := Lib.hid (get_any validC nameC bs wr _ A c (HA.out.below HB17.out) (fun k hk => hk) hc hc2 (HT.out.below HB17.out))
      rw [HGV.out] at HG17
      go_wp2_with fail
      refine HG17.out.mono ?_
      rintro e w18 ⟨cs18, rfl, hr18, hb18⟩
      dsimp only at hr18 ⊢
      have hr18' := hr18.old
      rw [← HXX.out] at hr18
      obtain ⟨AB4, AL4, AF4, cb4, cl4, cf4, L4, F4, rfl, -⟩ := hr18.inv
      clear hr18
      rw [HXB.out, HXL.out, HXF.out] at hr18' ⊢
      have b1819 := (Below.refl w18.heap.size w18).alloc (Nat.le_refl _) (.cells #[.int .i64 kx, .int .u64 nx, .slice AB4 xb cb4, .slice AL4 xl cl4, .slice AF4 xf cf4] 27)
      have q19 := heap_alloc_new w18 (.cells #[.int .i64 kx, .int .u64 nx, .slice AB4 xb cb4, .slice AL4 xl cl4, .slice AF4 xf cf4] 27)
      have b1719 := below_step hb18 (Nat.le_refl _) b1819
      have b1419 := below_step HB1417.out (Nat.le_refl _) b1719
      have HB19 := Lib.hid (below_step HB14.out (Nat.le_refl _) b1419)
      have HZ19 := Lib.hid (Rep0.below b1819 hr18')
      have HY19 := Lib.hid (HY14.out.below b1419)
      have HQZ := Lib.hid q19
      have HQY := Lib.hid (blk_below HQ14.out b1419)
      have HQP := Lib.hid (blk_below HQP14.out b1419)
      have HQ19 := Lib.hid (HQ17.out.below b1719)
      have HC19 := Lib.hid (BRow0.below (below_step HB914.out (Nat.le_refl _) b1419) HC9.out)
      have HA19 := Lib.hid (HA.out.below HB19.out)
      clear hr18' b1819 q19 b1719 b1419 hb18 HG17 HB17 HQ17 HB1417 HY14 HQ14 HQP14 HB914 HC9 HB1416 HB1415 HO15
      go_upto_region 16 with fail
      obtain ⟨P15, hP15⟩ : ∃ p, p = w18.heap.size := ⟨_, rfl⟩
      rw [← hP15] at HQZ ⊢
      clear hP15
      generalize w18.alloc _ = w19 at HB19 HZ19 HY19 HQZ HQY HQP HQ19 HC19 HA19 ⊢
      have bd := below_drew w19
      have HS := Lib.hid ((lawsame_any _ _ _ _ _ (HY19.out.below bd) (HZ19.out.below bd)).mono (R' := fun e w' => ∃ r, e = .returned r ∧ (r = .bool true ∧ Below w19.drew.heap.size w19.drew w')) (fun e w' h => ⟨_, h.1, by rw [sameR_refl], h.2⟩))
      -- what the last line reads, in each later world
      have hy := fun (W : World) (hb : Below w19.heap.size w19 W) => blk_below HQY.out hb
      have hzz := fun (W : World) (hb : Below w19.heap.size w19 W) => blk_below HQZ.out hb
      have hvv := fun (W : World) (hb : Below w19.heap.size w19 W) => blk_below HQP.out hb
      have hq := fun (W : World) (hb : Below w19.heap.size w19 W) => conv_str (c := c2) rfl (HQ19.out.below hb)
      have hcc := fun (W : World) (hb : Below w19.heap.size w19 W) => conv_str (c := c9) rfl (show BRow0 W A9 bs from by
        have := btake (HC19.out.below hb) bs.length
        simpa using this)
      have hbb := fun (W : World) (hb : Below w19.heap.size w19 W) => conv_str (c := c) rfl (HA19.out.below hb)
      obtain ⟨bc, oc, hAc, hlc⟩ : ∃ b o, A9 = some ⟨b, o, none⟩ ∧ ∀ (W : World) (hb : Below w19.heap.size w19 W), W.cell? ⟨b, o + bs.length, none⟩ = some (.int .u8 201) := by
        obtain ⟨b, o, h1, h2, h3, h4⟩ := BRow.at HC19.out (by simp)
        refine ⟨b, o, h1, fun W hb => ?_⟩
        have := h4 bs.length (by simp)
        rw [getD_at (by simp)] at this
        have h5 := below_cell hb this
        simpa using h5
      have HYF := @Lib.hid _ @hy
      have HZF := @Lib.hid _ @hzz
      have HVF := @Lib.hid _ @hvv
      have HQF := @Lib.hid _ @hq
      have HCF := @Lib.hid _ @hcc
      have HBF := @Lib.hid _ @hbb
      have HLF := @Lib.hid _ @hlc
      clear hy hzz hvv hq hcc hbb hlc
      have eE : (E == E) = true := by simp
      have eG : (G == G) = true := by simp
      have hbq : qb = pb := HQB.out
      subst hbq
      have hst : ((⟨qb.toArray⟩ : ByteArray).toList == (⟨qb.toArray⟩ : ByteArray).toList) = true := beq_self_eq_true _
      have hst2 : ((⟨bs.toArray⟩ : ByteArray).toList == (⟨bs.toArray⟩ : ByteArray).toList) = true := beq_self_eq_true _
      have hmore := HMORE.out
      have hwrap : IntKind.i64.wrap ((bs.length : Int) + 1) = (bs.length : Int) + 1 := by simp only [IntKind.wrap_i64]; omega
      have hlt1 : (bs.length : Int) < (bs.length : Int) + 1 := by omega
      subst hAc
      have HALL := @Lib.hid _ (fun (W : World) (hb : Below w19.heap.size w19 W) => (show W.cell? ⟨P8, 0, none⟩ = some (.int .i64 kx) ∧ W.cell? ⟨P8, 1, none⟩ = some (.int .u64 nx) ∧ W.cell? ⟨P8, 2, none⟩ = some (.slice AB3 xb cb3) ∧ W.cell? ⟨P8, 3, none⟩ = some (.slice AL3 xl cl3) ∧ W.cell? ⟨P8, 4, none⟩ = some (.slice AF3 xf cf3) ∧ W.cell? ⟨P15, 0, none⟩ = some (.int .i64 kx) ∧ W.cell? ⟨P15, 1, none⟩ = some (.int .u64 nx) ∧ W.cell? ⟨P15, 2, none⟩ = some (.slice AB4 xb cb4) ∧ W.cell? ⟨P15, 3, none⟩ = some (.slice AL4 xl cl4) ∧ W.cell? ⟨P15, 4, none⟩ = some (.slice AF4 xf cf4) ∧ W.cell? ⟨P, 0, none⟩ = some (.int .i64 k) ∧ W.cell? ⟨P, 1, none⟩ = some (.int .u64 n) ∧ W.cell? ⟨P, 2, none⟩ = some (.slice AB b.length cb) ∧ W.cell? ⟨P, 3, none⟩ = some (.slice AL l.length cl) ∧ W.cell? ⟨P, 4, none⟩ = some (.slice AF f.length cf) ∧ (convert 22 9 (.slice A2 qb.length c2)).run Tryd.prog W = .ok (.string ⟨qb.toArray⟩) W from ⟨cell_blk (HYF.out _ hb) 0, cell_blk (HYF.out _ hb) 1, cell_blk (HYF.out _ hb) 2, cell_blk (HYF.out _ hb) 3, cell_blk (HYF.out _ hb) 4, cell_blk (HZF.out _ hb) 0, cell_blk (HZF.out _ hb) 1, cell_blk (HZF.out _ hb) 2, cell_blk (HZF.out _ hb) 3, cell_blk (HZF.out _ hb) 4, cell_blk (HVF.out _ hb) 0, cell_blk (HVF.out _ hb) 1, cell_blk (HVF.out _ hb) 2, cell_blk (HVF.out _ hb) 3, cell_blk (HVF.out _ hb) 4, HQF.out _ hb⟩))
      have HEND := @Lib.hid _ (fun (W : World) (hb : Below w19.heap.size w19 W) => (show W.cell? ⟨bc, oc + bs.length, none⟩ = some (.int .u8 201) ∧ (convert 22 9 (.slice (some ⟨bc, oc, none⟩) bs.length c9)).run Tryd.prog W = .ok (.string ⟨bs.toArray⟩) W ∧ (convert 22 9 (.slice A bs.length c)).run Tryd.prog W = .ok (.string ⟨bs.toArray⟩) W from ⟨HLF.out _ hb, HCF.out _ hb, HBF.out _ hb⟩))
      clear HYF HZF HVF HQF HCF HBF HLF
      by_cases hg : G = 0
      · subst hg
        have hze := HZ.out (by first | rfl | trivial)
        subst hze
        have hle : qb.length ≤ 4096 := (HGZ.out (by first | rfl | trivial)).2
        have HRP := @Lib.hid _ (fun W (hb : Below w.heap.size w W) => (HPP.out W hb (Nat.le_trans hle (by omega))).mono (R' := fun e w' => ∃ r, e = .returned r ∧ ∃ A5 c5, (r = .slice A5 qb.length c5 ∧ BRow0 w' A5 qb ∧ Below W.heap.size W w')) (fun e w' ⟨v', h1, h2, h3⟩ => by
          obtain ⟨A5, c5, h4, h5, h6, h7⟩ := h2.old
          exact ⟨v', h1, A5, c5, h4, h7, h3⟩))
        clear hle HGZ HZ HPP
        refine wp_region_held_drew (S := fun w' => w'.cell? ⟨P8, 0, none⟩ = some (.int .i64 kx) ∧ w'.cell? ⟨P8, 1, none⟩ = some (.int .u64 nx) ∧ w'.cell? ⟨P8, 2, none⟩ = some (.slice AB3 xb cb3) ∧ w'.cell? ⟨P8, 3, none⟩ = some (.slice AL3 xl cl3) ∧ w'.cell? ⟨P8, 4, none⟩ = some (.slice AF3 xf cf3) ∧ w'.cell? ⟨P15, 0, none⟩ = some (.int .i64 kx) ∧ w'.cell? ⟨P15, 1, none⟩ = some (.int .u64 nx) ∧ w'.cell? ⟨P15, 2, none⟩ = some (.slice AB4 xb cb4) ∧ w'.cell? ⟨P15, 3, none⟩ = some (.slice AL4 xl cl4) ∧ w'.cell? ⟨P15, 4, none⟩ = some (.slice AF4 xf cf4) ∧ w'.cell? ⟨P, 0, none⟩ = some (.int .i64 k) ∧ w'.cell? ⟨P, 1, none⟩ = some (.int .u64 n) ∧ w'.cell? ⟨P, 2, none⟩ = some (.slice AB b.length cb) ∧ w'.cell? ⟨P, 3, none⟩ = some (.slice AL l.length cl) ∧ w'.cell? ⟨P, 4, none⟩ = some (.slice AF f.length cf) ∧ (convert 22 9 (.slice A2 qb.length c2)).run Tryd.prog w' = .ok (.string ⟨qb.toArray⟩) w') (by kernel_rfl) (HALL.out _ bd) (fun hHeld => ?_)
        refine wpAnyH_take (i := 0) (oi := _) (v := ?vvz0) rfl (by kernel_rfl) (by kernel_rfl) (by kernel_rfl) (fun _ _ _ h => h) (Or.inl ⟨by rfl, ?hyz0⟩) (by first | assumption | rfl) ?restz0
        case hyz0 => (intro W hW; (try dsimp only at hW); go_simp; try with_reducible rfl)
        try simp only [Act.put, List.getElem_toArray, List.getElem_cons_succ, List.getElem_cons_zero, List.setIfInBounds_toArray, List.set_cons_zero, List.set_cons_succ]
        refine wpAnyH_take (i := 1) (oi := _) (v := ?vvz1) rfl (by kernel_rfl) (by kernel_rfl) (by kernel_rfl) (fun _ _ _ h => h) (Or.inl ⟨by rfl, ?hyz1⟩) (by first | assumption | rfl) ?restz1
        case hyz1 => (intro W hW; (try dsimp only at hW); go_simp; try with_reducible rfl)
        try simp only [Act.put, List.getElem_toArray, List.getElem_cons_succ, List.getElem_cons_zero, List.setIfInBounds_toArray, List.set_cons_zero, List.set_cons_succ]
        refine wpAnyH_take (i := 2) (oi := _) (v := ?vvz2) rfl (by kernel_rfl) (by kernel_rfl) (by kernel_rfl) (fun _ _ _ h => h) (Or.inl ⟨by rfl, ?hyz2⟩) (by first | assumption | rfl) ?restz2
        case hyz2 => (intro W hW; (try dsimp only at hW); go_simp; try with_reducible rfl)
        try simp only [Act.put, List.getElem_toArray, List.getElem_cons_succ, List.getElem_cons_zero, List.setIfInBounds_toArray, List.set_cons_zero, List.set_cons_succ]
        refine wpAnyH_take (i := 3) (oi := _) (v := ?vvz3) rfl (by kernel_rfl) (by kernel_rfl) (by kernel_rfl) (fun _ _ _ h => h) (Or.inl ⟨by rfl, ?hyz3⟩) (by first | assumption | rfl) ?restz3
        case hyz3 => (intro W hW; (try dsimp only at hW); go_simp; try with_reducible rfl)
        try simp only [Act.put, List.getElem_toArray, List.getElem_cons_succ, List.getElem_cons_zero, List.setIfInBounds_toArray, List.set_cons_zero, List.set_cons_succ]
        refine wpAnyH_take (i := 4) (oi := _) (v := ?vvz4) rfl (by kernel_rfl) (by kernel_rfl) (by kernel_rfl) (fun _ _ _ h => h) (Or.inl ⟨by rfl, ?hyz4⟩) (by first | assumption | rfl) ?restz4
        case hyz4 => (intro W hW; (try dsimp only at hW); go_simp; try with_reducible rfl)
        try simp only [Act.put, List.getElem_toArray, List.getElem_cons_succ, List.getElem_cons_zero, List.setIfInBounds_toArray, List.set_cons_zero, List.set_cons_succ]
        refine wpAnyH_take (i := 5) (oi := _) (v := ?vvz5) rfl (by kernel_rfl) (by kernel_rfl) (by kernel_rfl) (fun _ _ _ h => h) (Or.inl ⟨by rfl, ?hyz5⟩) (by first | assumption | rfl) ?restz5
        case hyz5 => (intro W hW; (try dsimp only at hW); go_simp; try with_reducible rfl)
        try simp only [Act.put, List.getElem_toArray, List.getElem_cons_succ, List.getElem_cons_zero, List.setIfInBounds_toArray, List.set_cons_zero, List.set_cons_succ]
        refine wpAnyH_take (i := 6) (oi := _) (v := ?vvz6) rfl (by kernel_rfl) (by kernel_rfl) (by kernel_rfl) (fun _ _ _ h => h) (Or.inl ⟨by rfl, ?hyz6⟩) (by first | assumption | rfl) ?restz6
        case hyz6 => (intro W hW; (try dsimp only at hW); go_simp; try with_reducible rfl)
        try simp only [Act.put, List.getElem_toArray, List.getElem_cons_succ, List.getElem_cons_zero, List.setIfInBounds_toArray, List.set_cons_zero, List.set_cons_succ]
        refine wpAnyH_take (i := 7) (oi := _) (v := ?vvz7) rfl (by kernel_rfl) (by kernel_rfl) (by kernel_rfl) (fun _ _ _ h => h) (Or.inl ⟨by rfl, ?hyz7⟩) (by first | assumption | rfl) ?restz7
        case hyz7 => (intro W hW; (try dsimp only at hW); go_simp; try with_reducible rfl)
        try simp only [Act.put, List.getElem_toArray, List.getElem_cons_succ, List.getElem_cons_zero, List.setIfInBounds_toArray, List.set_cons_zero, List.set_cons_succ]
        refine wpAnyH_take (i := 8) (oi := _) (v := ?vvz8) rfl (by kernel_rfl) (by kernel_rfl) (by kernel_rfl) (fun _ _ _ h => h) (Or.inl ⟨by rfl, ?hyz8⟩) (by first | assumption | rfl) ?restz8
        case hyz8 => (intro W hW; (try dsimp only at hW); go_simp; try with_reducible rfl)
        try simp only [Act.put, List.getElem_toArray, List.getElem_cons_succ, List.getElem_cons_zero, List.setIfInBounds_toArray, List.set_cons_zero, List.set_cons_succ]
        refine wpAnyH_take (i := 9) (oi := _) (v := ?vvz9) rfl (by kernel_rfl) (by kernel_rfl) (by kernel_rfl) (fun _ _ _ h => h) (Or.inl ⟨by rfl, ?hyz9⟩) (by first | assumption | rfl) ?restz9
        case hyz9 => (intro W hW; (try dsimp only at hW); go_simp; try with_reducible rfl)
        try simp only [Act.put, List.getElem_toArray, List.getElem_cons_succ, List.getElem_cons_zero, List.setIfInBounds_toArray, List.set_cons_zero, List.set_cons_succ]
        refine wpAnyH_take (i := 10) (oi := _) (v := ?vvz10) rfl (by kernel_rfl) (by kernel_rfl) (by kernel_rfl) (fun _ _ _ h => h) (Or.inl ⟨by rfl, ?hyz10⟩) (by first | assumption | rfl) ?restz10
        case hyz10 => (intro W hW; (try dsimp only at hW); go_simp; try with_reducible rfl)
        try simp only [Act.put, List.getElem_toArray, List.getElem_cons_succ, List.getElem_cons_zero, List.setIfInBounds_toArray, List.set_cons_zero, List.set_cons_succ]
        refine wpAnyH_ready (rs := [11]) (by kernel_rfl) (by simp) ?_
        refine AllReadyH.cons (o := _) rfl (fun K hK => ?_) AllReadyH.nil
        refine step_call2E 17 rfl (.tmp 75) (.tmp 76) _ rfl rfl rfl (enters_of Tryd.func17 (by kernel_rfl) rfl) HS.out ?_
        rintro r20 w20 ⟨rfl, hb20⟩
        have b20 := below_step bd (Nat.le_refl _) hb20
        refine hK.out _ _ (HALL.out _ b20) (fun hHeld => ?_)
        clear hK K hb20
        try simp only [Act.put, List.getElem_toArray, List.getElem_cons_succ, List.getElem_cons_zero, List.setIfInBounds_toArray, List.set_cons_zero, List.set_cons_succ]
        refine wpAnyH_take (i := 12) (oi := _) (v := ?vvz12) rfl (by kernel_rfl) (by kernel_rfl) (by kernel_rfl) (fun _ _ _ h => h) (Or.inl ⟨by rfl, ?hyz12⟩) (by first | assumption | rfl) ?restz12
        case hyz12 => (intro W hW; (try dsimp only at hW); go_simp; try with_reducible rfl)
        try simp only [Act.put, List.getElem_toArray, List.getElem_cons_succ, List.getElem_cons_zero, List.setIfInBounds_toArray, List.set_cons_zero, List.set_cons_succ]
        refine wpAnyH_take (i := 13) (oi := _) (v := ?vvz13) rfl (by kernel_rfl) (by kernel_rfl) (by kernel_rfl) (fun _ _ _ h => h) (Or.inl ⟨by rfl, ?hyz13⟩) (by first | assumption | rfl) ?restz13
        case hyz13 => (intro W hW; (try dsimp only at hW); go_simp; try with_reducible rfl)
        try simp only [Act.put, List.getElem_toArray, List.getElem_cons_succ, List.getElem_cons_zero, List.setIfInBounds_toArray, List.set_cons_zero, List.set_cons_succ]
        refine wpAnyH_take (i := 14) (oi := _) (v := ?vvz14) rfl (by kernel_rfl) (by kernel_rfl) (by kernel_rfl) (fun _ _ _ h => h) (Or.inl ⟨by rfl, ?hyz14⟩) (by first | assumption | rfl) ?restz14
        case hyz14 => (intro W hW; (try dsimp only at hW); go_simp; try with_reducible rfl)
        try simp only [Act.put, List.getElem_toArray, List.getElem_cons_succ, List.getElem_cons_zero, List.setIfInBounds_toArray, List.set_cons_zero, List.set_cons_succ]
        refine wpAnyH_take (i := 15) (oi := _) (v := ?vvz15) rfl (by kernel_rfl) (by kernel_rfl) (by kernel_rfl) (fun _ _ _ h => h) (Or.inl ⟨by rfl, ?hyz15⟩) (by first | assumption | rfl) ?restz15
        case hyz15 => (intro W hW; (try dsimp only at hW); go_simp; try with_reducible rfl)
        try simp only [Act.put, List.getElem_toArray, List.getElem_cons_succ, List.getElem_cons_zero, List.setIfInBounds_toArray, List.set_cons_zero, List.set_cons_succ]
        refine wpAnyH_take (i := 16) (oi := _) (v := ?vvz16) rfl (by kernel_rfl) (by kernel_rfl) (by kernel_rfl) (fun _ _ _ h => h) (Or.inl ⟨by rfl, ?hyz16⟩) (by first | assumption | rfl) ?restz16
        case hyz16 => (intro W hW; (try dsimp only at hW); go_simp; try with_reducible rfl)
        try simp only [Act.put, List.getElem_toArray, List.getElem_cons_succ, List.getElem_cons_zero, List.setIfInBounds_toArray, List.set_cons_zero, List.set_cons_succ]
        refine wpAnyH_take (i := 17) (oi := _) (v := ?vvz17) rfl (by kernel_rfl) (by kernel_rfl) (by kernel_rfl) (fun _ _ _ h => h) (Or.inl ⟨by rfl, ?hyz17⟩) (by first | assumption | rfl) ?restz17
        case hyz17 => (intro W hW; (try dsimp only at hW); go_simp; try with_reducible rfl)
        try simp only [Act.put, List.getElem_toArray, List.getElem_cons_succ, List.getElem_cons_zero, List.setIfInBounds_toArray, List.set_cons_zero, List.set_cons_succ]
        refine wpAnyH_take (i := 18) (oi := _) (v := ?vvz18) rfl (by kernel_rfl) (by kernel_rfl) (by kernel_rfl) (fun _ _ _ h => h) (Or.inl ⟨by rfl, ?hyz18⟩) (by first | assumption | rfl) ?restz18
        case hyz18 => (intro W hW; (try dsimp only at hW); go_simp; try with_reducible rfl)
        try simp only [Act.put, List.getElem_toArray, List.getElem_cons_succ, List.getElem_cons_zero, List.setIfInBounds_toArray, List.set_cons_zero, List.set_cons_succ]
        refine wpAnyH_take (i := 19) (oi := _) (v := ?vvz19) rfl (by kernel_rfl) (by kernel_rfl) (by kernel_rfl) (fun _ _ _ h => h) (Or.inl ⟨by rfl, ?hyz19⟩) (by first | assumption | rfl) ?restz19
        case hyz19 => (intro W hW; (try dsimp only at hW); go_simp; try with_reducible rfl)
        try simp only [Act.put, List.getElem_toArray, List.getElem_cons_succ, List.getElem_cons_zero, List.setIfInBounds_toArray, List.set_cons_zero, List.set_cons_succ]
        refine wpAnyH_take (i := 20) (oi := _) (v := ?vvz20) rfl (by kernel_rfl) (by kernel_rfl) (by kernel_rfl) (fun _ _ _ h => h) (Or.inl ⟨by rfl, ?hyz20⟩) (by first | assumption | rfl) ?restz20
        case hyz20 => (intro W hW; (try dsimp only at hW); go_simp; try with_reducible rfl)
        try simp only [Act.put, List.getElem_toArray, List.getElem_cons_succ, List.getElem_cons_zero, List.setIfInBounds_toArray, List.set_cons_zero, List.set_cons_succ]
        refine wpAnyH_take (i := 21) (oi := _) (v := ?vvz21) rfl (by kernel_rfl) (by kernel_rfl) (by kernel_rfl) (fun _ _ _ h => h) (Or.inl ⟨by rfl, ?hyz21⟩) (by first | assumption | rfl) ?restz21
        case hyz21 => (intro W hW; (try dsimp only at hW); go_simp; try with_reducible rfl)
        try simp only [Act.put, List.getElem_toArray, List.getElem_cons_succ, List.getElem_cons_zero, List.setIfInBounds_toArray, List.set_cons_zero, List.set_cons_succ]
        refine wpAnyH_take (i := 22) (oi := _) (v := ?vvz22) rfl (by kernel_rfl) (by kernel_rfl) (by kernel_rfl) (fun _ _ _ h => h) (Or.inl ⟨by rfl, ?hyz22⟩) (by first | assumption | rfl) ?restz22
        case hyz22 => (intro W hW; (try dsimp only at hW); go_simp; try with_reducible rfl)
        try simp only [Act.put, List.getElem_toArray, List.getElem_cons_succ, List.getElem_cons_zero, List.setIfInBounds_toArray, List.set_cons_zero, List.set_cons_succ]
        refine wpAnyH_take (i := 23) (oi := _) (v := ?vvz23) rfl (by kernel_rfl) (by kernel_rfl) (by kernel_rfl) (fun _ _ _ h => h) (Or.inl ⟨by rfl, ?hyz23⟩) (by first | assumption | rfl) ?restz23
        case hyz23 => (intro W hW; (try dsimp only at hW); go_simp; try with_reducible rfl)
        try simp only [Act.put, List.getElem_toArray, List.getElem_cons_succ, List.getElem_cons_zero, List.setIfInBounds_toArray, List.set_cons_zero, List.set_cons_succ]
        refine wpAnyH_take (i := 24) (oi := _) (v := ?vvz24) rfl (by kernel_rfl) (by kernel_rfl) (by kernel_rfl) (fun _ _ _ h => h) (Or.inl ⟨by rfl, ?hyz24⟩) (by first | assumption | rfl) ?restz24
        case hyz24 => (intro W hW; (try dsimp only at hW); go_simp; try with_reducible rfl)
        try simp only [Act.put, List.getElem_toArray, List.getElem_cons_succ, List.getElem_cons_zero, List.setIfInBounds_toArray, List.set_cons_zero, List.set_cons_succ]
        refine wpAnyH_ready (rs := [25]) (by kernel_rfl) (by simp) ?_
        refine AllReadyH.cons (o := _) rfl (fun K hK => ?_) AllReadyH.nil
        refine step_call1E 23 rfl (.tmp 90) _ rfl rfl (enters_of Tryd.func23 (by kernel_rfl) rfl) (HRP.out w20 (below_step HB19.out (Nat.le_refl _) b20)) ?_
        rintro r21 w21 ⟨A5, c5, rfl, hr5, hb21⟩
        have b21 := below_step b20 (Nat.le_refl _) hb21
        have cr := conv_str (c := c5) rfl hr5
        refine hK.out _ _ (HALL.out _ b21) (fun hHeld => ?_)
        clear hK K hb21
        try simp only [Act.put, List.getElem_toArray, List.getElem_cons_succ, List.getElem_cons_zero, List.setIfInBounds_toArray, List.set_cons_zero, List.set_cons_succ]
        refine wpAnyH_mono (S' := fun W => W = w21) (fun W hW => hW ▸ HALL.out _ b21) _ _ _ _ ?_
        obtain ⟨cl9, cc, cb9⟩ := HEND.out _ b21
        refine wpAnyH_take (i := 26) (oi := _) (v := ?vvz26) rfl (by kernel_rfl) (by kernel_rfl) (by kernel_rfl) (fun _ _ _ h => h) (Or.inl ⟨by rfl, ?hyz26⟩) (by first | assumption | rfl) ?restz26
        case hyz26 => (rintro W rfl; go_simp; try with_reducible rfl)
        try simp only [Act.put, List.getElem_toArray, List.getElem_cons_succ, List.getElem_cons_zero, List.setIfInBounds_toArray, List.set_cons_zero, List.set_cons_succ]
        refine wpAnyH_take (i := 27) (oi := _) (v := ?vvz27) rfl (by kernel_rfl) (by kernel_rfl) (by kernel_rfl) (fun _ _ _ h => h) (Or.inl ⟨by rfl, ?hyz27⟩) (by first | assumption | rfl) ?restz27
        case hyz27 => (rintro W rfl; go_simp; try with_reducible rfl)
        try simp only [Act.put, List.getElem_toArray, List.getElem_cons_succ, List.getElem_cons_zero, List.setIfInBounds_toArray, List.set_cons_zero, List.set_cons_succ]
        refine wpAnyH_take (i := 28) (oi := _) (v := ?vvz28) rfl (by kernel_rfl) (by kernel_rfl) (by kernel_rfl) (fun _ _ _ h => h) (Or.inl ⟨by rfl, ?hyz28⟩) (by first | assumption | rfl) ?restz28
        case hyz28 => (rintro W rfl; go_simp; try with_reducible rfl)
        try simp only [Act.put, List.getElem_toArray, List.getElem_cons_succ, List.getElem_cons_zero, List.setIfInBounds_toArray, List.set_cons_zero, List.set_cons_succ]
        refine wpAnyH_take (i := 29) (oi := _) (v := ?vvz29) rfl (by kernel_rfl) (by kernel_rfl) (by kernel_rfl) (fun _ _ _ h => h) (Or.inl ⟨by rfl, ?hyz29⟩) (by first | assumption | rfl) ?restz29
        case hyz29 => (rintro W rfl; go_simp; try with_reducible rfl)
        try simp only [Act.put, List.getElem_toArray, List.getElem_cons_succ, List.getElem_cons_zero, List.setIfInBounds_toArray, List.set_cons_zero, List.set_cons_succ]
        refine wpAnyH_take (i := 30) (oi := _) (v := ?vvz30) rfl (by kernel_rfl) (by kernel_rfl) (by kernel_rfl) (fun _ _ _ h => h) (Or.inl ⟨by rfl, ?hyz30⟩) (by first | assumption | rfl) ?restz30
        case hyz30 => (rintro W rfl; go_simp; try with_reducible rfl)
        try simp only [Act.put, List.getElem_toArray, List.getElem_cons_succ, List.getElem_cons_zero, List.setIfInBounds_toArray, List.set_cons_zero, List.set_cons_succ]
        refine wpAnyH_take (i := 31) (oi := _) (v := ?vvz31) rfl (by kernel_rfl) (by kernel_rfl) (by kernel_rfl) (fun _ _ _ h => h) (Or.inl ⟨by rfl, ?hyz31⟩) (by first | assumption | rfl) ?restz31
        case hyz31 => (rintro W rfl; go_simp; try with_reducible rfl)
        try simp only [Act.put, List.getElem_toArray, List.getElem_cons_succ, List.getElem_cons_zero, List.setIfInBounds_toArray, List.set_cons_zero, List.set_cons_succ]
        refine wpAnyH_take (i := 32) (oi := _) (v := ?vvz32) rfl (by kernel_rfl) (by kernel_rfl) (by kernel_rfl) (fun _ _ _ h => h) (Or.inl ⟨by rfl, ?hyz32⟩) (by first | assumption | rfl) ?restz32
        case hyz32 => (rintro W rfl; go_simp; try with_reducible rfl)
        try simp only [Act.put, List.getElem_toArray, List.getElem_cons_succ, List.getElem_cons_zero, List.setIfInBounds_toArray, List.set_cons_zero, List.set_cons_succ]
        refine wpAnyH_take (i := 33) (oi := _) (v := ?vvz33) rfl (by kernel_rfl) (by kernel_rfl) (by kernel_rfl) (fun _ _ _ h => h) (Or.inl ⟨by rfl, ?hyz33⟩) (by first | assumption | rfl) ?restz33
        case hyz33 => (rintro W rfl; go_simp; try with_reducible rfl)
        try simp only [Act.put, List.getElem_toArray, List.getElem_cons_succ, List.getElem_cons_zero, List.setIfInBounds_toArray, List.set_cons_zero, List.set_cons_succ]
        refine wpAnyH_take (i := 34) (oi := _) (v := ?vvz34) rfl (by kernel_rfl) (by kernel_rfl) (by kernel_rfl) (fun _ _ _ h => h) (Or.inl ⟨by rfl, ?hyz34⟩) (by first | assumption | rfl) ?restz34
        case hyz34 => (rintro W rfl; go_simp; try with_reducible rfl)
        try simp only [Act.put, List.getElem_toArray, List.getElem_cons_succ, List.getElem_cons_zero, List.setIfInBounds_toArray, List.set_cons_zero, List.set_cons_succ]
        refine wpAnyH_take (i := 35) (oi := _) (v := ?vvz35) rfl (by kernel_rfl) (by kernel_rfl) (by kernel_rfl) (fun _ _ _ h => h) (Or.inl ⟨by rfl, ?hyz35⟩) (by first | assumption | rfl) ?restz35
        case hyz35 => (rintro W rfl; go_simp; try with_reducible rfl)
        try simp only [Act.put, List.getElem_toArray, List.getElem_cons_succ, List.getElem_cons_zero, List.setIfInBounds_toArray, List.set_cons_zero, List.set_cons_succ]
        refine wpAnyH_take (i := 36) (oi := _) (v := ?vvz36) rfl (by kernel_rfl) (by kernel_rfl) (by kernel_rfl) (fun _ _ _ h => h) (Or.inl ⟨by rfl, ?hyz36⟩) (by first | assumption | rfl) ?restz36
        case hyz36 => (rintro W rfl; go_simp; try with_reducible rfl)
        try simp only [Act.put, List.getElem_toArray, List.getElem_cons_succ, List.getElem_cons_zero, List.setIfInBounds_toArray, List.set_cons_zero, List.set_cons_succ]
        refine wpAnyH_take (i := 37) (oi := _) (v := ?vvz37) rfl (by kernel_rfl) (by kernel_rfl) (by kernel_rfl) (fun _ _ _ h => h) (Or.inl ⟨by rfl, ?hyz37⟩) (by first | assumption | rfl) ?restz37
        case hyz37 => (rintro W rfl; go_simp; try with_reducible rfl)
        try simp only [Act.put, List.getElem_toArray, List.getElem_cons_succ, List.getElem_cons_zero, List.setIfInBounds_toArray, List.set_cons_zero, List.set_cons_succ]
        refine wpAnyH_take (i := 38) (oi := _) (v := ?vvz38) rfl (by kernel_rfl) (by kernel_rfl) (by kernel_rfl) (fun _ _ _ h => h) (Or.inl ⟨by rfl, ?hyz38⟩) (by first | assumption | rfl) ?restz38
        case hyz38 => (rintro W rfl; go_simp; try with_reducible rfl)
        try simp only [Act.put, List.getElem_toArray, List.getElem_cons_succ, List.getElem_cons_zero, List.setIfInBounds_toArray, List.set_cons_zero, List.set_cons_succ]
        refine wpAnyH_take (i := 39) (oi := _) (v := ?vvz39) rfl (by kernel_rfl) (by kernel_rfl) (by kernel_rfl) (fun _ _ _ h => h) (Or.inl ⟨by rfl, ?hyz39⟩) (by first | assumption | rfl) ?restz39
        case hyz39 => (rintro W rfl; go_simp; try with_reducible rfl)
        try simp only [Act.put, List.getElem_toArray, List.getElem_cons_succ, List.getElem_cons_zero, List.setIfInBounds_toArray, List.set_cons_zero, List.set_cons_succ]
        refine wpAnyH_take (i := 40) (oi := _) (v := ?vvz40) rfl (by kernel_rfl) (by kernel_rfl) (by kernel_rfl) (fun _ _ _ h => h) (Or.inl ⟨by rfl, ?hyz40⟩) (by first | assumption | rfl) ?restz40
        case hyz40 => (rintro W rfl; go_simp; try with_reducible rfl)
        try simp only [Act.put, List.getElem_toArray, List.getElem_cons_succ, List.getElem_cons_zero, List.setIfInBounds_toArray, List.set_cons_zero, List.set_cons_succ]
        refine wpAnyH_take (i := 41) (oi := _) (v := ?vvz41) rfl (by kernel_rfl) (by kernel_rfl) (by kernel_rfl) (fun _ _ _ h => h) (Or.inl ⟨by rfl, ?hyz41⟩) (by first | assumption | rfl) ?restz41
        case hyz41 => (rintro W rfl; go_simp; try with_reducible rfl)
        try simp only [Act.put, List.getElem_toArray, List.getElem_cons_succ, List.getElem_cons_zero, List.setIfInBounds_toArray, List.set_cons_zero, List.set_cons_succ]
        refine wpAnyH_take (i := 42) (oi := _) (v := ?vvz42) rfl (by kernel_rfl) (by kernel_rfl) (by kernel_rfl) (fun _ _ _ h => h) (Or.inl ⟨by rfl, ?hyz42⟩) (by first | assumption | rfl) ?restz42
        case hyz42 => (rintro W rfl; go_simp; try with_reducible rfl)
        try simp only [Act.put, List.getElem_toArray, List.getElem_cons_succ, List.getElem_cons_zero, List.setIfInBounds_toArray, List.set_cons_zero, List.set_cons_succ]
        refine wpAnyH_take (i := 43) (oi := _) (v := ?vvz43) rfl (by kernel_rfl) (by kernel_rfl) (by kernel_rfl) (fun _ _ _ h => h) (Or.inl ⟨by rfl, ?hyz43⟩) (by first | assumption | rfl) ?restz43
        case hyz43 => (rintro W rfl; go_simp; try with_reducible rfl)
        try simp only [Act.put, List.getElem_toArray, List.getElem_cons_succ, List.getElem_cons_zero, List.setIfInBounds_toArray, List.set_cons_zero, List.set_cons_succ]
        refine wpAnyH_take (i := 44) (oi := _) (v := ?vvz44) rfl (by kernel_rfl) (by kernel_rfl) (by kernel_rfl) (fun _ _ _ h => h) (Or.inl ⟨by rfl, ?hyz44⟩) (by first | assumption | rfl) ?restz44
        case hyz44 => (rintro W rfl; go_simp; try with_reducible rfl)
        try simp only [Act.put, List.getElem_toArray, List.getElem_cons_succ, List.getElem_cons_zero, List.setIfInBounds_toArray, List.set_cons_zero, List.set_cons_succ]
        refine wpAnyH_take (i := 45) (oi := _) (v := ?vvz45) rfl (by kernel_rfl) (by kernel_rfl) (by kernel_rfl) (fun _ _ _ h => h) (Or.inl ⟨by rfl, ?hyz45⟩) (by first | assumption | rfl) ?restz45
        case hyz45 => (rintro W rfl; go_simp; try with_reducible rfl)
        try simp only [Act.put, List.getElem_toArray, List.getElem_cons_succ, List.getElem_cons_zero, List.setIfInBounds_toArray, List.set_cons_zero, List.set_cons_succ]
        refine wpAnyH_take (i := 46) (oi := _) (v := ?vvz46) rfl (by kernel_rfl) (by kernel_rfl) (by kernel_rfl) (fun _ _ _ h => h) (Or.inl ⟨by rfl, ?hyz46⟩) (by first | assumption | rfl) ?restz46
        case hyz46 => (rintro W rfl; go_simp; try with_reducible rfl)
        try simp only [Act.put, List.getElem_toArray, List.getElem_cons_succ, List.getElem_cons_zero, List.setIfInBounds_toArray, List.set_cons_zero, List.set_cons_succ]
        refine wpAnyH_take (i := 47) (oi := _) (v := ?vvz47) rfl (by kernel_rfl) (by kernel_rfl) (by kernel_rfl) (fun _ _ _ h => h) (Or.inl ⟨by rfl, ?hyz47⟩) (by first | assumption | rfl) ?restz47
        case hyz47 => (rintro W rfl; go_simp; try with_reducible rfl)
        try simp only [Act.put, List.getElem_toArray, List.getElem_cons_succ, List.getElem_cons_zero, List.setIfInBounds_toArray, List.set_cons_zero, List.set_cons_succ]
        refine wpAnyH_take (i := 48) (oi := _) (v := ?vvz48) rfl (by kernel_rfl) (by kernel_rfl) (by kernel_rfl) (fun _ _ _ h => h) (Or.inl ⟨by rfl, ?hyz48⟩) (by first | assumption | rfl) ?restz48
        case hyz48 => (rintro W rfl; go_simp; try with_reducible rfl)
        try simp only [Act.put, List.getElem_toArray, List.getElem_cons_succ, List.getElem_cons_zero, List.setIfInBounds_toArray, List.set_cons_zero, List.set_cons_succ]
        refine wpAnyH_take (i := 49) (oi := _) (v := ?vvz49) rfl (by kernel_rfl) (by kernel_rfl) (by kernel_rfl) (fun _ _ _ h => h) (Or.inl ⟨by rfl, ?hyz49⟩) (by first | assumption | rfl) ?restz49
        case hyz49 => (rintro W rfl; go_simp; try with_reducible rfl)
        try simp only [Act.put, List.getElem_toArray, List.getElem_cons_succ, List.getElem_cons_zero, List.setIfInBounds_toArray, List.set_cons_zero, List.set_cons_succ]
        refine wpAnyH_done (by kernel_rfl) ?_ _
        go_wp2_with fail
        go_ret
        exact ⟨rfl, below_step HB19.out (Nat.le_refl _) b21⟩
      · have hgB : (G != 0) = true := by simpa using hg
        clear HGZ HZ HPP
        refine wp_region_held_drew (S := fun w' => w'.cell? ⟨P8, 0, none⟩ = some (.int .i64 kx) ∧ w'.cell? ⟨P8, 1, none⟩ = some (.int .u64 nx) ∧ w'.cell? ⟨P8, 2, none⟩ = some (.slice AB3 xb cb3) ∧ w'.cell? ⟨P8, 3, none⟩ = some (.slice AL3 xl cl3) ∧ w'.cell? ⟨P8, 4, none⟩ = some (.slice AF3 xf cf3) ∧ w'.cell? ⟨P15, 0, none⟩ = some (.int .i64 kx) ∧ w'.cell? ⟨P15, 1, none⟩ = some (.int .u64 nx) ∧ w'.cell? ⟨P15, 2, none⟩ = some (.slice AB4 xb cb4) ∧ w'.cell? ⟨P15, 3, none⟩ = some (.slice AL4 xl cl4) ∧ w'.cell? ⟨P15, 4, none⟩ = some (.slice AF4 xf cf4) ∧ w'.cell? ⟨P, 0, none⟩ = some (.int .i64 k) ∧ w'.cell? ⟨P, 1, none⟩ = some (.int .u64 n) ∧ w'.cell? ⟨P, 2, none⟩ = some (.slice AB b.length cb) ∧ w'.cell? ⟨P, 3, none⟩ = some (.slice AL l.length cl) ∧ w'.cell? ⟨P, 4, none⟩ = some (.slice AF f.length cf) ∧ (convert 22 9 (.slice A2 qb.length c2)).run Tryd.prog w' = .ok (.string ⟨qb.toArray⟩) w') (by kernel_rfl) (HALL.out _ bd) (fun hHeld => ?_)
        refine wpAnyH_take (i := 0) (oi := _) (v := ?vvn0) rfl (by kernel_rfl) (by kernel_rfl) (by kernel_rfl) (fun _ _ _ h => h) (Or.inl ⟨by rfl, ?hyn0⟩) (by first | assumption | rfl) ?restn0
        case hyn0 => (intro W hW; (try dsimp only at hW); go_simp; try with_reducible rfl)
        try simp only [Act.put, List.getElem_toArray, List.getElem_cons_succ, List.getElem_cons_zero, List.setIfInBounds_toArray, List.set_cons_zero, List.set_cons_succ]
        refine wpAnyH_take (i := 1) (oi := _) (v := ?vvn1) rfl (by kernel_rfl) (by kernel_rfl) (by kernel_rfl) (fun _ _ _ h => h) (Or.inl ⟨by rfl, ?hyn1⟩) (by first | assumption | rfl) ?restn1
        case hyn1 => (intro W hW; (try dsimp only at hW); go_simp; try with_reducible rfl)
        try simp only [Act.put, List.getElem_toArray, List.getElem_cons_succ, List.getElem_cons_zero, List.setIfInBounds_toArray, List.set_cons_zero, List.set_cons_succ]
        refine wpAnyH_take (i := 2) (oi := _) (v := ?vvn2) rfl (by kernel_rfl) (by kernel_rfl) (by kernel_rfl) (fun _ _ _ h => h) (Or.inl ⟨by rfl, ?hyn2⟩) (by first | assumption | rfl) ?restn2
        case hyn2 => (intro W hW; (try dsimp only at hW); go_simp; try with_reducible rfl)
        try simp only [Act.put, List.getElem_toArray, List.getElem_cons_succ, List.getElem_cons_zero, List.setIfInBounds_toArray, List.set_cons_zero, List.set_cons_succ]
        refine wpAnyH_take (i := 3) (oi := _) (v := ?vvn3) rfl (by kernel_rfl) (by kernel_rfl) (by kernel_rfl) (fun _ _ _ h => h) (Or.inl ⟨by rfl, ?hyn3⟩) (by first | assumption | rfl) ?restn3
        case hyn3 => (intro W hW; (try dsimp only at hW); go_simp; try with_reducible rfl)
        try simp only [Act.put, List.getElem_toArray, List.getElem_cons_succ, List.getElem_cons_zero, List.setIfInBounds_toArray, List.set_cons_zero, List.set_cons_succ]
        refine wpAnyH_take (i := 4) (oi := _) (v := ?vvn4) rfl (by kernel_rfl) (by kernel_rfl) (by kernel_rfl) (fun _ _ _ h => h) (Or.inl ⟨by rfl, ?hyn4⟩) (by first | assumption | rfl) ?restn4
        case hyn4 => (intro W hW; (try dsimp only at hW); go_simp; try with_reducible rfl)
        try simp only [Act.put, List.getElem_toArray, List.getElem_cons_succ, List.getElem_cons_zero, List.setIfInBounds_toArray, List.set_cons_zero, List.set_cons_succ]
        refine wpAnyH_take (i := 5) (oi := _) (v := ?vvn5) rfl (by kernel_rfl) (by kernel_rfl) (by kernel_rfl) (fun _ _ _ h => h) (Or.inl ⟨by rfl, ?hyn5⟩) (by first | assumption | rfl) ?restn5
        case hyn5 => (intro W hW; (try dsimp only at hW); go_simp; try with_reducible rfl)
        try simp only [Act.put, List.getElem_toArray, List.getElem_cons_succ, List.getElem_cons_zero, List.setIfInBounds_toArray, List.set_cons_zero, List.set_cons_succ]
        refine wpAnyH_take (i := 6) (oi := _) (v := ?vvn6) rfl (by kernel_rfl) (by kernel_rfl) (by kernel_rfl) (fun _ _ _ h => h) (Or.inl ⟨by rfl, ?hyn6⟩) (by first | assumption | rfl) ?restn6
        case hyn6 => (intro W hW; (try dsimp only at hW); go_simp; try with_reducible rfl)
        try simp only [Act.put, List.getElem_toArray, List.getElem_cons_succ, List.getElem_cons_zero, List.setIfInBounds_toArray, List.set_cons_zero, List.set_cons_succ]
        refine wpAnyH_take (i := 7) (oi := _) (v := ?vvn7) rfl (by kernel_rfl) (by kernel_rfl) (by kernel_rfl) (fun _ _ _ h => h) (Or.inl ⟨by rfl, ?hyn7⟩) (by first | assumption | rfl) ?restn7
        case hyn7 => (intro W hW; (try dsimp only at hW); go_simp; try with_reducible rfl)
        try simp only [Act.put, List.getElem_toArray, List.getElem_cons_succ, List.getElem_cons_zero, List.setIfInBounds_toArray, List.set_cons_zero, List.set_cons_succ]
        refine wpAnyH_take (i := 8) (oi := _) (v := ?vvn8) rfl (by kernel_rfl) (by kernel_rfl) (by kernel_rfl) (fun _ _ _ h => h) (Or.inl ⟨by rfl, ?hyn8⟩) (by first | assumption | rfl) ?restn8
        case hyn8 => (intro W hW; (try dsimp only at hW); go_simp; try with_reducible rfl)
        try simp only [Act.put, List.getElem_toArray, List.getElem_cons_succ, List.getElem_cons_zero, List.setIfInBounds_toArray, List.set_cons_zero, List.set_cons_succ]
        refine wpAnyH_take (i := 9) (oi := _) (v := ?vvn9) rfl (by kernel_rfl) (by kernel_rfl) (by kernel_rfl) (fun _ _ _ h => h) (Or.inl ⟨by rfl, ?hyn9⟩) (by first | assumption | rfl) ?restn9
        case hyn9 => (intro W hW; (try dsimp only at hW); go_simp; try with_reducible rfl)
        try simp only [Act.put, List.getElem_toArray, List.getElem_cons_succ, List.getElem_cons_zero, List.setIfInBounds_toArray, List.set_cons_zero, List.set_cons_succ]
        refine wpAnyH_take (i := 10) (oi := _) (v := ?vvn10) rfl (by kernel_rfl) (by kernel_rfl) (by kernel_rfl) (fun _ _ _ h => h) (Or.inl ⟨by rfl, ?hyn10⟩) (by first | assumption | rfl) ?restn10
        case hyn10 => (intro W hW; (try dsimp only at hW); go_simp; try with_reducible rfl)
        try simp only [Act.put, List.getElem_toArray, List.getElem_cons_succ, List.getElem_cons_zero, List.setIfInBounds_toArray, List.set_cons_zero, List.set_cons_succ]
        refine wpAnyH_ready (rs := [11]) (by kernel_rfl) (by simp) ?_
        refine AllReadyH.cons (o := _) rfl (fun K hK => ?_) AllReadyH.nil
        refine step_call2E 17 rfl (.tmp 75) (.tmp 76) _ rfl rfl rfl (enters_of Tryd.func17 (by kernel_rfl) rfl) HS.out ?_
        rintro r20 w20 ⟨rfl, hb20⟩
        have b20 := below_step bd (Nat.le_refl _) hb20
        refine hK.out _ _ (HALL.out _ b20) (fun hHeld => ?_)
        clear hK K hb20
        try simp only [Act.put, List.getElem_toArray, List.getElem_cons_succ, List.getElem_cons_zero, List.setIfInBounds_toArray, List.set_cons_zero, List.set_cons_succ]
        refine wpAnyH_mono (S' := fun W => W = w20) (fun W hW => hW ▸ HALL.out _ b20) _ _ _ _ ?_
        obtain ⟨cl9, cc, cb9⟩ := HEND.out _ b20
        refine wpAnyH_take (i := 12) (oi := _) (v := ?vvn12) rfl (by kernel_rfl) (by kernel_rfl) (by kernel_rfl) (fun _ _ _ h => h) (Or.inl ⟨by rfl, ?hyn12⟩) (by first | assumption | rfl) ?restn12
        case hyn12 => (rintro W rfl; go_simp; try with_reducible rfl)
        try simp only [Act.put, List.getElem_toArray, List.getElem_cons_succ, List.getElem_cons_zero, List.setIfInBounds_toArray, List.set_cons_zero, List.set_cons_succ]
        refine wpAnyH_take (i := 13) (oi := _) (v := ?vvn13) rfl (by kernel_rfl) (by kernel_rfl) (by kernel_rfl) (fun _ _ _ h => h) (Or.inl ⟨by rfl, ?hyn13⟩) (by first | assumption | rfl) ?restn13
        case hyn13 => (rintro W rfl; go_simp; try with_reducible rfl)
        try simp only [Act.put, List.getElem_toArray, List.getElem_cons_succ, List.getElem_cons_zero, List.setIfInBounds_toArray, List.set_cons_zero, List.set_cons_succ]
        refine wpAnyH_take (i := 14) (oi := _) (v := ?vvn14) rfl (by kernel_rfl) (by kernel_rfl) (by kernel_rfl) (fun _ _ _ h => h) (Or.inl ⟨by rfl, ?hyn14⟩) (by first | assumption | rfl) ?restn14
        case hyn14 => (rintro W rfl; go_simp; try with_reducible rfl)
        try simp only [Act.put, List.getElem_toArray, List.getElem_cons_succ, List.getElem_cons_zero, List.setIfInBounds_toArray, List.set_cons_zero, List.set_cons_succ]
        refine wpAnyH_take (i := 15) (oi := _) (v := ?vvn15) rfl (by kernel_rfl) (by kernel_rfl) (by kernel_rfl) (fun _ _ _ h => h) (Or.inl ⟨by rfl, ?hyn15⟩) (by first | assumption | rfl) ?restn15
        case hyn15 => (rintro W rfl; go_simp; try with_reducible rfl)
        try simp only [Act.put, List.getElem_toArray, List.getElem_cons_succ, List.getElem_cons_zero, List.setIfInBounds_toArray, List.set_cons_zero, List.set_cons_succ]
        refine wpAnyH_take (i := 16) (oi := _) (v := ?vvn16) rfl (by kernel_rfl) (by kernel_rfl) (by kernel_rfl) (fun _ _ _ h => h) (Or.inl ⟨by rfl, ?hyn16⟩) (by first | assumption | rfl) ?restn16
        case hyn16 => (rintro W rfl; go_simp; try with_reducible rfl)
        try simp only [Act.put, List.getElem_toArray, List.getElem_cons_succ, List.getElem_cons_zero, List.setIfInBounds_toArray, List.set_cons_zero, List.set_cons_succ]
        refine wpAnyH_take (i := 17) (oi := _) (v := ?vvn17) rfl (by kernel_rfl) (by kernel_rfl) (by kernel_rfl) (fun _ _ _ h => h) (Or.inl ⟨by rfl, ?hyn17⟩) (by first | assumption | rfl) ?restn17
        case hyn17 => (rintro W rfl; go_simp; try with_reducible rfl)
        try simp only [Act.put, List.getElem_toArray, List.getElem_cons_succ, List.getElem_cons_zero, List.setIfInBounds_toArray, List.set_cons_zero, List.set_cons_succ]
        refine wpAnyH_take (i := 18) (oi := _) (v := ?vvn18) rfl (by kernel_rfl) (by kernel_rfl) (by kernel_rfl) (fun _ _ _ h => h) (Or.inl ⟨by rfl, ?hyn18⟩) (by first | assumption | rfl) ?restn18
        case hyn18 => (rintro W rfl; go_simp; try with_reducible rfl)
        try simp only [Act.put, List.getElem_toArray, List.getElem_cons_succ, List.getElem_cons_zero, List.setIfInBounds_toArray, List.set_cons_zero, List.set_cons_succ]
        refine wpAnyH_take (i := 19) (oi := _) (v := ?vvn19) rfl (by kernel_rfl) (by kernel_rfl) (by kernel_rfl) (fun _ _ _ h => h) (Or.inl ⟨by rfl, ?hyn19⟩) (by first | assumption | rfl) ?restn19
        case hyn19 => (rintro W rfl; go_simp; try with_reducible rfl)
        try simp only [Act.put, List.getElem_toArray, List.getElem_cons_succ, List.getElem_cons_zero, List.setIfInBounds_toArray, List.set_cons_zero, List.set_cons_succ]
        refine wpAnyH_take (i := 20) (oi := _) (v := ?vvn20) rfl (by kernel_rfl) (by kernel_rfl) (by kernel_rfl) (fun _ _ _ h => h) (Or.inl ⟨by rfl, ?hyn20⟩) (by first | assumption | rfl) ?restn20
        case hyn20 => (rintro W rfl; go_simp; try with_reducible rfl)
        try simp only [Act.put, List.getElem_toArray, List.getElem_cons_succ, List.getElem_cons_zero, List.setIfInBounds_toArray, List.set_cons_zero, List.set_cons_succ]
        refine wpAnyH_take (i := 21) (oi := _) (v := ?vvn21) rfl (by kernel_rfl) (by kernel_rfl) (by kernel_rfl) (fun _ _ _ h => h) (Or.inl ⟨by rfl, ?hyn21⟩) (by first | assumption | rfl) ?restn21
        case hyn21 => (rintro W rfl; go_simp; try with_reducible rfl)
        try simp only [Act.put, List.getElem_toArray, List.getElem_cons_succ, List.getElem_cons_zero, List.setIfInBounds_toArray, List.set_cons_zero, List.set_cons_succ]
        refine wpAnyH_take (i := 22) (oi := _) (v := undef) rfl (by kernel_rfl) (by kernel_rfl) (by kernel_rfl) (fun _ _ _ h => h) (Or.inr ⟨by rfl, rfl⟩) (by first | assumption | rfl) ?_
        try simp only [Act.put, List.getElem_toArray, List.getElem_cons_succ, List.getElem_cons_zero, List.setIfInBounds_toArray, List.set_cons_zero, List.set_cons_succ]
        refine wpAnyH_take (i := 23) (oi := _) (v := undef) rfl (by kernel_rfl) (by kernel_rfl) (by kernel_rfl) (fun _ _ _ h => h) (Or.inr ⟨by rfl, rfl⟩) (by first | assumption | rfl) ?_
        try simp only [Act.put, List.getElem_toArray, List.getElem_cons_succ, List.getElem_cons_zero, List.setIfInBounds_toArray, List.set_cons_zero, List.set_cons_succ]
        refine wpAnyH_take (i := 24) (oi := _) (v := undef) rfl (by kernel_rfl) (by kernel_rfl) (by kernel_rfl) (fun _ _ _ h => h) (Or.inr ⟨by rfl, rfl⟩) (by first | assumption | rfl) ?_
        try simp only [Act.put, List.getElem_toArray, List.getElem_cons_succ, List.getElem_cons_zero, List.setIfInBounds_toArray, List.set_cons_zero, List.set_cons_succ]
        refine wpAnyH_take (i := 25) (oi := _) (v := undef) rfl (by kernel_rfl) (by kernel_rfl) (by kernel_rfl) (fun _ _ _ h => h) (Or.inr ⟨by rfl, rfl⟩) (by first | assumption | rfl) ?_
        try simp only [Act.put, List.getElem_toArray, List.getElem_cons_succ, List.getElem_cons_zero, List.setIfInBounds_toArray, List.set_cons_zero, List.set_cons_succ]
        refine wpAnyH_take (i := 26) (oi := _) (v := undef) rfl (by kernel_rfl) (by kernel_rfl) (by kernel_rfl) (fun _ _ _ h => h) (Or.inr ⟨by rfl, rfl⟩) (by first | assumption | rfl) ?_
        try simp only [Act.put, List.getElem_toArray, List.getElem_cons_succ, List.getElem_cons_zero, List.setIfInBounds_toArray, List.set_cons_zero, List.set_cons_succ]
        refine wpAnyH_take (i := 27) (oi := _) (v := undef) rfl (by kernel_rfl) (by kernel_rfl) (by kernel_rfl) (fun _ _ _ h => h) (Or.inr ⟨by rfl, rfl⟩) (by first | assumption | rfl) ?_
        try simp only [Act.put, List.getElem_toArray, List.getElem_cons_succ, List.getElem_cons_zero, List.setIfInBounds_toArray, List.set_cons_zero, List.set_cons_succ]
        refine wpAnyH_take (i := 28) (oi := _) (v := ?vvn28) rfl (by kernel_rfl) (by kernel_rfl) (by kernel_rfl) (fun _ _ _ h => h) (Or.inl ⟨by rfl, ?hyn28⟩) (by first | assumption | rfl) ?restn28
        case hyn28 => (rintro W rfl; go_simp; try with_reducible rfl)
        try simp only [Act.put, List.getElem_toArray, List.getElem_cons_succ, List.getElem_cons_zero, List.setIfInBounds_toArray, List.set_cons_zero, List.set_cons_succ]
        refine wpAnyH_take (i := 29) (oi := _) (v := ?vvn29) rfl (by kernel_rfl) (by kernel_rfl) (by kernel_rfl) (fun _ _ _ h => h) (Or.inl ⟨by rfl, ?hyn29⟩) (by first | assumption | rfl) ?restn29
        case hyn29 => (rintro W rfl; go_simp; try with_reducible rfl)
        try simp only [Act.put, List.getElem_toArray, List.getElem_cons_succ, List.getElem_cons_zero, List.setIfInBounds_toArray, List.set_cons_zero, List.set_cons_succ]
        refine wpAnyH_take (i := 30) (oi := _) (v := ?vvn30) rfl (by kernel_rfl) (by kernel_rfl) (by kernel_rfl) (fun _ _ _ h => h) (Or.inl ⟨by rfl, ?hyn30⟩) (by first | assumption | rfl) ?restn30
        case hyn30 => (rintro W rfl; go_simp; try with_reducible rfl)
        try simp only [Act.put, List.getElem_toArray, List.getElem_cons_succ, List.getElem_cons_zero, List.setIfInBounds_toArray, List.set_cons_zero, List.set_cons_succ]
        refine wpAnyH_take (i := 31) (oi := _) (v := ?vvn31) rfl (by kernel_rfl) (by kernel_rfl) (by kernel_rfl) (fun _ _ _ h => h) (Or.inl ⟨by rfl, ?hyn31⟩) (by first | assumption | rfl) ?restn31
        case hyn31 => (rintro W rfl; go_simp; try with_reducible rfl)
        try simp only [Act.put, List.getElem_toArray, List.getElem_cons_succ, List.getElem_cons_zero, List.setIfInBounds_toArray, List.set_cons_zero, List.set_cons_succ]
        refine wpAnyH_take (i := 32) (oi := _) (v := ?vvn32) rfl (by kernel_rfl) (by kernel_rfl) (by kernel_rfl) (fun _ _ _ h => h) (Or.inl ⟨by rfl, ?hyn32⟩) (by first | assumption | rfl) ?restn32
        case hyn32 => (rintro W rfl; go_simp; try with_reducible rfl)
        try simp only [Act.put, List.getElem_toArray, List.getElem_cons_succ, List.getElem_cons_zero, List.setIfInBounds_toArray, List.set_cons_zero, List.set_cons_succ]
        refine wpAnyH_take (i := 33) (oi := _) (v := ?vvn33) rfl (by kernel_rfl) (by kernel_rfl) (by kernel_rfl) (fun _ _ _ h => h) (Or.inl ⟨by rfl, ?hyn33⟩) (by first | assumption | rfl) ?restn33
        case hyn33 => (rintro W rfl; go_simp; try with_reducible rfl)
        try simp only [Act.put, List.getElem_toArray, List.getElem_cons_succ, List.getElem_cons_zero, List.setIfInBounds_toArray, List.set_cons_zero, List.set_cons_succ]
        refine wpAnyH_take (i := 34) (oi := _) (v := ?vvn34) rfl (by kernel_rfl) (by kernel_rfl) (by kernel_rfl) (fun _ _ _ h => h) (Or.inl ⟨by rfl, ?hyn34⟩) (by first | assumption | rfl) ?restn34
        case hyn34 => (rintro W rfl; go_simp; try with_reducible rfl)
        try simp only [Act.put, List.getElem_toArray, List.getElem_cons_succ, List.getElem_cons_zero, List.setIfInBounds_toArray, List.set_cons_zero, List.set_cons_succ]
        refine wpAnyH_take (i := 35) (oi := _) (v := ?vvn35) rfl (by kernel_rfl) (by kernel_rfl) (by kernel_rfl) (fun _ _ _ h => h) (Or.inl ⟨by rfl, ?hyn35⟩) (by first | assumption | rfl) ?restn35
        case hyn35 => (rintro W rfl; go_simp; try with_reducible rfl)
        try simp only [Act.put, List.getElem_toArray, List.getElem_cons_succ, List.getElem_cons_zero, List.setIfInBounds_toArray, List.set_cons_zero, List.set_cons_succ]
        refine wpAnyH_take (i := 36) (oi := _) (v := ?vvn36) rfl (by kernel_rfl) (by kernel_rfl) (by kernel_rfl) (fun _ _ _ h => h) (Or.inl ⟨by rfl, ?hyn36⟩) (by first | assumption | rfl) ?restn36
        case hyn36 => (rintro W rfl; go_simp; try with_reducible rfl)
        try simp only [Act.put, List.getElem_toArray, List.getElem_cons_succ, List.getElem_cons_zero, List.setIfInBounds_toArray, List.set_cons_zero, List.set_cons_succ]
        refine wpAnyH_take (i := 37) (oi := _) (v := ?vvn37) rfl (by kernel_rfl) (by kernel_rfl) (by kernel_rfl) (fun _ _ _ h => h) (Or.inl ⟨by rfl, ?hyn37⟩) (by first | assumption | rfl) ?restn37
        case hyn37 => (rintro W rfl; go_simp; try with_reducible rfl)
        try simp only [Act.put, List.getElem_toArray, List.getElem_cons_succ, List.getElem_cons_zero, List.setIfInBounds_toArray, List.set_cons_zero, List.set_cons_succ]
        refine wpAnyH_take (i := 38) (oi := _) (v := ?vvn38) rfl (by kernel_rfl) (by kernel_rfl) (by kernel_rfl) (fun _ _ _ h => h) (Or.inl ⟨by rfl, ?hyn38⟩) (by first | assumption | rfl) ?restn38
        case hyn38 => (rintro W rfl; go_simp; try with_reducible rfl)
        try simp only [Act.put, List.getElem_toArray, List.getElem_cons_succ, List.getElem_cons_zero, List.setIfInBounds_toArray, List.set_cons_zero, List.set_cons_succ]
        refine wpAnyH_take (i := 39) (oi := _) (v := ?vvn39) rfl (by kernel_rfl) (by kernel_rfl) (by kernel_rfl) (fun _ _ _ h => h) (Or.inl ⟨by rfl, ?hyn39⟩) (by first | assumption | rfl) ?restn39
        case hyn39 => (rintro W rfl; go_simp; try with_reducible rfl)
        try simp only [Act.put, List.getElem_toArray, List.getElem_cons_succ, List.getElem_cons_zero, List.setIfInBounds_toArray, List.set_cons_zero, List.set_cons_succ]
        refine wpAnyH_take (i := 40) (oi := _) (v := ?vvn40) rfl (by kernel_rfl) (by kernel_rfl) (by kernel_rfl) (fun _ _ _ h => h) (Or.inl ⟨by rfl, ?hyn40⟩) (by first | assumption | rfl) ?restn40
        case hyn40 => (rintro W rfl; go_simp; try with_reducible rfl)
        try simp only [Act.put, List.getElem_toArray, List.getElem_cons_succ, List.getElem_cons_zero, List.setIfInBounds_toArray, List.set_cons_zero, List.set_cons_succ]
        refine wpAnyH_take (i := 41) (oi := _) (v := ?vvn41) rfl (by kernel_rfl) (by kernel_rfl) (by kernel_rfl) (fun _ _ _ h => h) (Or.inl ⟨by rfl, ?hyn41⟩) (by first | assumption | rfl) ?restn41
        case hyn41 => (rintro W rfl; go_simp; try with_reducible rfl)
        try simp only [Act.put, List.getElem_toArray, List.getElem_cons_succ, List.getElem_cons_zero, List.setIfInBounds_toArray, List.set_cons_zero, List.set_cons_succ]
        refine wpAnyH_take (i := 42) (oi := _) (v := ?vvn42) rfl (by kernel_rfl) (by kernel_rfl) (by kernel_rfl) (fun _ _ _ h => h) (Or.inl ⟨by rfl, ?hyn42⟩) (by first | assumption | rfl) ?restn42
        case hyn42 => (rintro W rfl; go_simp; try with_reducible rfl)
        try simp only [Act.put, List.getElem_toArray, List.getElem_cons_succ, List.getElem_cons_zero, List.setIfInBounds_toArray, List.set_cons_zero, List.set_cons_succ]
        refine wpAnyH_take (i := 43) (oi := _) (v := ?vvn43) rfl (by kernel_rfl) (by kernel_rfl) (by kernel_rfl) (fun _ _ _ h => h) (Or.inl ⟨by rfl, ?hyn43⟩) (by first | assumption | rfl) ?restn43
        case hyn43 => (rintro W rfl; go_simp; try with_reducible rfl)
        try simp only [Act.put, List.getElem_toArray, List.getElem_cons_succ, List.getElem_cons_zero, List.setIfInBounds_toArray, List.set_cons_zero, List.set_cons_succ]
        refine wpAnyH_take (i := 44) (oi := _) (v := ?vvn44) rfl (by kernel_rfl) (by kernel_rfl) (by kernel_rfl) (fun _ _ _ h => h) (Or.inl ⟨by rfl, ?hyn44⟩) (by first | assumption | rfl) ?restn44
        case hyn44 => (rintro W rfl; go_simp; try with_reducible rfl)
        try simp only [Act.put, List.getElem_toArray, List.getElem_cons_succ, List.getElem_cons_zero, List.setIfInBounds_toArray, List.set_cons_zero, List.set_cons_succ]
        refine wpAnyH_take (i := 45) (oi := _) (v := ?vvn45) rfl (by kernel_rfl) (by kernel_rfl) (by kernel_rfl) (fun _ _ _ h => h) (Or.inl ⟨by rfl, ?hyn45⟩) (by first | assumption | rfl) ?restn45
        case hyn45 => (rintro W rfl; go_simp; try with_reducible rfl)
        try simp only [Act.put, List.getElem_toArray, List.getElem_cons_succ, List.getElem_cons_zero, List.setIfInBounds_toArray, List.set_cons_zero, List.set_cons_succ]
        refine wpAnyH_take (i := 46) (oi := _) (v := ?vvn46) rfl (by kernel_rfl) (by kernel_rfl) (by kernel_rfl) (fun _ _ _ h => h) (Or.inl ⟨by rfl, ?hyn46⟩) (by first | assumption | rfl) ?restn46
        case hyn46 => (rintro W rfl; go_simp; try with_reducible rfl)
        try simp only [Act.put, List.getElem_toArray, List.getElem_cons_succ, List.getElem_cons_zero, List.setIfInBounds_toArray, List.set_cons_zero, List.set_cons_succ]
        refine wpAnyH_take (i := 47) (oi := _) (v := ?vvn47) rfl (by kernel_rfl) (by kernel_rfl) (by kernel_rfl) (fun _ _ _ h => h) (Or.inl ⟨by rfl, ?hyn47⟩) (by first | assumption | rfl) ?restn47
        case hyn47 => (rintro W rfl; go_simp; try with_reducible rfl)
        try simp only [Act.put, List.getElem_toArray, List.getElem_cons_succ, List.getElem_cons_zero, List.setIfInBounds_toArray, List.set_cons_zero, List.set_cons_succ]
        refine wpAnyH_take (i := 48) (oi := _) (v := ?vvn48) rfl (by kernel_rfl) (by kernel_rfl) (by kernel_rfl) (fun _ _ _ h => h) (Or.inl ⟨by rfl, ?hyn48⟩) (by first | assumption | rfl) ?restn48
        case hyn48 => (rintro W rfl; go_simp; try with_reducible rfl)
        try simp only [Act.put, List.getElem_toArray, List.getElem_cons_succ, List.getElem_cons_zero, List.setIfInBounds_toArray, List.set_cons_zero, List.set_cons_succ]
        refine wpAnyH_take (i := 49) (oi := _) (v := ?vvn49) rfl (by kernel_rfl) (by kernel_rfl) (by kernel_rfl) (fun _ _ _ h => h) (Or.inl ⟨by rfl, ?hyn49⟩) (by first | assumption | rfl) ?restn49
        case hyn49 => (rintro W rfl; go_simp; try with_reducible rfl)
        try simp only [Act.put, List.getElem_toArray, List.getElem_cons_succ, List.getElem_cons_zero, List.setIfInBounds_toArray, List.set_cons_zero, List.set_cons_succ]
        refine wpAnyH_done (by kernel_rfl) ?_ _
        go_wp2_with fail
        go_ret
        exact ⟨rfl, below_step HB19.out (Nat.le_refl _) b20⟩
end Go.Proofs.YtljdfainnmpjnaaDoor

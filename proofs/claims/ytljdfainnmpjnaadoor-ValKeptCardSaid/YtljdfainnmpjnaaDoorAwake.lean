/- The layer's first sentence: a number there, a text back. -/
import Derived.Test.YtljdfainnmpjnaaDoorPutP
import Derived.Test.YtljdfainnmpjnaaDoorGet
import Derived.Test.YtljdfainnmpjnaaDoorValues
import Derived.Test.YtljdfainnmpjnaaDoorNameC
set_option linter.unusedVariables false
namespace Go.Proofs.YtljdfainnmpjnaaDoor
open Go.RowKit

/-- What T ends in: a text of new memory. -/
def Texts (w : World) (s : ByteArray) (e : Ending) (w' : World) : Prop :=
  ∃ A c, e = .returned (.agg #[.int .i64 5, .int .u64 0, .slice A s.size c, .slice none 0 0, .slice none 0 0]) ∧ Rep w' (fun k => w.heap.size ≤ k) (.mk 5 0 s.data.toList [] []) [.int .i64 5, .int .u64 0, .slice A s.size c, .slice none 0 0, .slice none 0 0] ∧ Below w.heap.size w w'
set_option maxRecDepth 100000 in
theorem I_any (n : Int) (w : World) : Calls Tryd.prog 24 #[.int .i64 n] w fun e w' => e = .returned (.agg #[.int .i64 3, .int .u64 (IntKind.u64.wrap n), .slice none 0 0, .slice none 0 0, .slice none 0 0]) ∧ Below w.heap.size w w' := by
  go_enter Tryd.func24, Tryd.ntmps24
  go_wp2_with fail
  exact bodyPost_ret (v := .agg #[.int .i64 3, .int .u64 (IntKind.u64.wrap n), .slice none 0 0, .slice none 0 0, .slice none 0 0]) (by simp [results, Tryd.results24, go_sem]) rfl ⟨rfl, (Below.refl _ _).alloc (Nat.le_refl _) _⟩
set_option maxRecDepth 100000 in
theorem T_any (s : ByteArray) (w : World) (hs : s.size ≤ 281474976710656) : Calls Tryd.prog 44 #[.string s] w (Texts w s) := by
  have cvb : ∀ W : World, (convert 9 22 (.string s)).run Tryd.prog W = .ok (.slice (some ⟨W.heap.size, 0, none⟩) s.size (grownCap W s.size 0 5)) (Lib.bytesWorld W 5 s) := fun W => conv_bytes W s
  obtain ⟨w1, hw1⟩ : ∃ w1, w.alloc (.cells vzero 27) = w1 := ⟨_, rfl⟩
  have hb1 : Below w.heap.size w w1 := by rw [← hw1]; exact (Below.refl _ _).alloc (Nat.le_refl _) _
  have hs1 : w1.heap.size = w.heap.size + 1 := by rw [← hw1]; simp
  have hq : w1.heap[w.heap.size]? = some (.cells vzero 27 (0, 0)) := by rw [← hw1]; exact heap_alloc_new w _
  have hb2 := bytesWorld_below w1 5 s
  have hq2 : (Lib.bytesWorld w1 5 s).heap[w.heap.size]? = some (.cells vzero 27 (0, 0)) := by rw [hb2.block _ (by omega)]; exact hq
  have hrow := bytesWorld_row w1 s (fun k => w.heap.size < k) (by omega)
  have hlen := bytesWorld_len w1 s 5 hs
  have hz : s.data.toList.length = s.size := by simp
  simp only [vzero] at hw1 hq2
  go_enter Tryd.func44, Tryd.ntmps44
  go_upto_region 1 with fail
  clear hw1
  generalize hW2 : Lib.bytesWorld w1 5 s = w2 at hb2 hq2 hrow
  have cv1 := cvb w1
  rw [hW2] at cv1
  generalize hc : grownCap w1 s.size 0 5 = c at cv1 hlen
  have hrep := rep_bytes (k := 5) (n := 0) (by omega) (by omega) hlen hrow
  rw [hz] at hrep
  have HREP := Lib.hid (rep_again hrep (b := w.heap.size) (Nat.lt_irrefl _) (.int .i64 5) (.int .u64 0) (.slice (some ⟨w1.heap.size, 0, none⟩) s.size c) (.slice none 0 0) (.slice none 0 0))
  have HBB := Lib.hid (below_five (below_step hb1 (by omega) hb2) (Nat.le_refl _) (.int .i64 5) (.int .u64 0) (.slice (some ⟨w1.heap.size, 0, none⟩) s.size c) (.slice none 0 0) (.slice none 0 0))
  have HF := Lib.hid (show (((((w2.setCell ⟨w.heap.size, 0, none⟩ (.int .i64 5)).setCell ⟨w.heap.size, 1, none⟩ (.int .u64 0)).setCell ⟨w.heap.size, 2, none⟩ (.slice (some ⟨w1.heap.size, 0, none⟩) s.size c)).setCell ⟨w.heap.size, 3, none⟩ (.slice none 0 0)).setCell ⟨w.heap.size, 4, none⟩ (.slice none 0 0)).heap[w.heap.size]? = some (.cells #[.int .i64 5, .int .u64 0, .slice (some ⟨w1.heap.size, 0, none⟩) s.size c, .slice none 0 0, .slice none 0 0] 27 (0, 0)) by simp [World.setCell, Array.getElem?_modify, hq2])
  have e0 := cell_blk hq2 0; have e1 := cell_blk hq2 1; have e2 := cell_blk hq2 2; have e3 := cell_blk hq2 3; have e4 := cell_blk hq2 4
  have f0 := frozen_blk hq2 0; have f1 := frozen_blk hq2 1; have f2 := frozen_blk hq2 2; have f3 := frozen_blk hq2 3; have f4 := frozen_blk hq2 4
  clear cvb hW2 hc hrep hrow hlen hq hq2 hb2 hz hs1
  go_wp2_with fail
  have hf := HF.out
  refine bodyPost_ret (v := .agg #[.int .i64 5, .int .u64 0, .slice (some ⟨w1.heap.size, 0, none⟩) s.size c, .slice none 0 0, .slice none 0 0]) ?_ rfl ⟨_, _, rfl, HREP.out.mono (fun k _ h => by omega), HBB.out⟩
  have d0 := cell_blk hf 0; have d1 := cell_blk hf 1; have d2 := cell_blk hf 2; have d3 := cell_blk hf 3; have d4 := cell_blk hf 4
  simp [results, Tryd.results44, go_sem, d0, d1, d2, d3, d4]
section
variable {ops : Array Oper} {rest : List Oper} {o : Oper} {a : Act} {Q : Exit → Act → World → Prop} {w : World}
theorem step_call1E {K : Act → World → Prop} {E : Prop} (f : FuncId) (hgd : Region.wanted o (yielded ops a.tmps) = true) (x : Operand) (ts : Array TypeId) (ho : o.op = .call { callee := .value (.func f), args := #[x], argTypes := ts })
    {p : Value} (hx : a.eval x = p) (he : ∀ args w, (callFunc f args).run Tryd.prog w = .ok (.enter f args) w) {R : Value → World → Prop} (h : Calls Tryd.prog f #[p] w (fun e w' => ∃ r, e = .returned r ∧ R r w'))
    (hK : ∀ r w', R r w' → K (a.put o.dst r) w') :
    if Region.wanted o (yielded ops a.tmps) = true then Oper.wp Tryd.prog o a w K Q else E := by
  rw [if_pos hgd]
  have e : (execOp a.eval o).run Tryd.prog w = .ok (.enter f #[p]) w := by
    unfold execOp
    simp only [ho]
    have hf : a.eval (.func f) = .func (.func f) #[] #[] := rfl
    simp [resolve, hx, hf, Deferred.ofValue, invoke, he]
  unfold Oper.wp
  rw [e, Oper.upon_enter]
  refine h.mono ?_
  rintro e' w' ⟨r, rfl, hr⟩
  exact hK r w' hr
theorem step_call2E {K : Act → World → Prop} {E : Prop} (f : FuncId) (hgd : Region.wanted o (yielded ops a.tmps) = true) (x y : Operand) (ts : Array TypeId) (ho : o.op = .call { callee := .value (.func f), args := #[x, y], argTypes := ts })
    {p q : Value} (hx : a.eval x = p) (hy : a.eval y = q) (he : ∀ args w, (callFunc f args).run Tryd.prog w = .ok (.enter f args) w) {R : Value → World → Prop} (h : Calls Tryd.prog f #[p, q] w (fun e w' => ∃ r, e = .returned r ∧ R r w'))
    (hK : ∀ r w', R r w' → K (a.put o.dst r) w') :
    if Region.wanted o (yielded ops a.tmps) = true then Oper.wp Tryd.prog o a w K Q else E := by
  rw [if_pos hgd]
  have e : (execOp a.eval o).run Tryd.prog w = .ok (.enter f #[p, q]) w := by
    unfold execOp
    simp only [ho]
    have hf : a.eval (.func f) = .func (.func f) #[] #[] := rfl
    simp [resolve, hx, hy, hf, Deferred.ofValue, invoke, he]
  unfold Oper.wp
  rw [e, Oper.upon_enter]
  refine h.mono ?_
  rintro e' w' ⟨r, rfl, hr⟩
  exact hK r w' hr
end
/-- The value of -1. -/
abbrev V1 : V := .mk 3 18446744073709551615 [] [] []
abbrev VA : V := .mk 5 0 [97] [] []
theorem formed_V1 : Formed V1 := (formed_iff _ _ _ _ _).2 ⟨by unfold Kind1; omega, ⟨by simp, by simp, by simp, fun h => by omega⟩, fun i h => absurd h (by simp), fun i h => absurd h (by simp)⟩
theorem enc_V1 : encR V1 = [3, 255, 255, 255, 255, 255, 255, 255, 255] := by decide
theorem good_V1 : goodR V1 = 0 := by
  unfold goodR
  rw [formedB_true.2 formed_V1, if_neg (by simp), enc_V1]
  rfl
theorem small_V1 : Small V1 := ⟨by decide, fun _ => by decide⟩
theorem get_VA : getV [5, 1, 0, 97] = (VA, 0) := by
  refine getV_ok (by decide) ?_
  have e : parse 16 [5, 1, 0, 97] = body (some (parse 15)) 5 [1, 0, 97] := rfl
  have e2 : body (some (parse 15)) 5 [1, 0, 97] = (
      if ([1, 0, 97] : List UInt8).length < 2 then .error 4 else
      if (([1, 0, 97] : List UInt8).drop 2).length < (leNum (([1, 0, 97] : List UInt8).take 2)).toNat then .error 4 else
      if (5 : Nat) = 6 ∨ utfR ((([1, 0, 97] : List UInt8).drop 2).take (leNum (([1, 0, 97] : List UInt8).take 2)).toNat) = true then .ok (.mk 5 0 ((([1, 0, 97] : List UInt8).drop 2).take (leNum (([1, 0, 97] : List UInt8).take 2)).toNat) [] [], (([1, 0, 97] : List UInt8).drop 2).drop (leNum (([1, 0, 97] : List UInt8).take 2)).toNat) else .error 4) := rfl
  rw [e, e2, if_neg (by decide), if_neg (by decide), if_pos (by right; decide)]
  rfl
set_option maxRecDepth 100000 in
set_option maxHeartbeats 4000000 in
theorem awake_any (w : World) (hT : Tabs w) : Calls Tryd.prog 16 #[] w fun e w' => e = .returned (.bool true) ∧ Below w.heap.size w w' := by
  have hI := I_any (-1) w
  have hwr : IntKind.u64.wrap (-1) = 18446744073709551615 := by decide
  rw [hwr] at hI
  have HI := Lib.hid hI
  clear hI hwr
  go_enter Tryd.func16, Tryd.ntmps16
  go_wp2_with fail
  refine HI.out.mono ?_
  rintro e w1 ⟨rfl, hb1⟩
  have hP := put_any V1 _ w1 (hT.below hb1) (rep_atom (k := 3) (n := 18446744073709551615) (by omega) (by omega)) small_V1
  have HP := Lib.hid hP
  clear hP
  go_wp2_with fail
  refine HP.out.mono ?_
  rintro e w2 ⟨t, bs, rfl, ho2, hb2, hz, -⟩
  have hbs := hz good_V1
  rw [enc_V1] at hbs
  rw [good_V1]
  have hb12 := below_step hb1 (Nat.le_refl _) hb2
  obtain ⟨A1, c1, rfl, hc1, hc2, hr1⟩ := ho2.old
  subst hbs
  have hz1 : ([3, 255, 255, 255, 255, 255, 255, 255, 255] : List UInt8).length = 9 := rfl
  rw [hz1] at hc1 ⊢
  have HB12 := Lib.hid hb12
  have HR1 := Lib.hid hr1
  clear hz ho2 hb2 hb1 hb12 hr1 hz1 HP HI
  have hb3 : Below w2.heap.size w2 (w2.alloc (.cells #[.int .u8 5, .int .u8 1, .int .u8 0, .int .u8 97] 5)) := (Below.refl _ _).alloc (Nat.le_refl _) _
  have hrow : BRow0 (w2.alloc (.cells #[.int .u8 5, .int .u8 1, .int .u8 0, .int .u8 97] 5)) (some ⟨w2.heap.size, 0, none⟩) [5, 1, 0, 97] := BRow.of (by show _ < _; simp) (by simp) (fun i hi => by
    rw [cell_blk (heap_alloc_new w2 _)]
    have : i = 0 ∨ i = 1 ∨ i = 2 ∨ i = 3 := by simp at hi; omega
    rcases this with rfl | rfl | rfl | rfl <;> rfl)
  have hG := get_any validC nameC [5, 1, 0, 97] _ _ _ 4 hrow (fun k hk => hk) (by simp) (by omega) ((hT.below HB12.out).below hb3)
  rw [get_VA] at hG
  have HG := Lib.hid hG
  have HB3 := Lib.hid hb3
  clear hG hrow hb3
  go_wp2_with fail
  refine HG.out.mono ?_
  rintro e w4 ⟨cs, rfl, hr4, hb4⟩
  have hr4' := hr4
  obtain ⟨AB, AL, AF, cb, cl, cf, L, F, rfl, -⟩ := hr4.inv
  clear hr4
  simp only [List.length_nil, List.length_singleton] at hr4' ⊢
  have hb5 := below_step HB3.out (by simp) hb4
  have hb45 := (Below.refl w4.heap.size w4).alloc (Nat.le_refl _) (.cells #[.int .i64 5, .int .u64 0, .slice AB 1 cb, .slice AL 0 cl, .slice AF 0 cf] 27)
  have hb25 := below_step hb5 (by have := hb5.size; omega) hb45
  have hq := heap_alloc_new w4 (.cells #[.int .i64 5, .int .u64 0, .slice AB 1 cb, .slice AL 0 cl, .slice AF 0 cf] 27)
  have hr5 := Rep0.below hb45 hr4'.old
  go_upto_region 3 with fail
  generalize w4.alloc _ = w5 at hb25 hq hr5 ⊢
  have hcv := conv_str (n := 9) (c := c1) rfl (HR1.out.below hb25.drew)
  have hst : ((⟨#[3, 255, 255, 255, 255, 255, 255, 255, 255]⟩ : ByteArray).toList == (⟨#[3, 255, 255, 255, 255, 255, 255, 255, 255]⟩ : ByteArray).toList) = true := beq_self_eq_true _
  have z0 := cell_blk hq 0; have z1 := cell_blk hq 1; have z2 := cell_blk hq 2; have z3 := cell_blk hq 3; have z4 := cell_blk hq 4
  have HQ := Lib.hid hq
  have HR5 := Lib.hid hr5
  have HB25 := Lib.hid hb25
  clear hq hr5 hb45 hb5 hb4 hr4' hb25
  have hTx := T_any ⟨#[97]⟩ w5.drew (by decide)
  have hTx2 : Calls Tryd.prog 44 #[.string ⟨#[97]⟩] w5.drew (fun e w' => ∃ r, e = .returned r ∧ (∃ A c, r = .agg #[.int .i64 5, .int .u64 0, .slice A 1 c, .slice none 0 0, .slice none 0 0] ∧ Rep w' (fun k => w5.drew.heap.size ≤ k) VA [.int .i64 5, .int .u64 0, .slice A 1 c, .slice none 0 0, .slice none 0 0] ∧ Below w5.drew.heap.size w5.drew w')) := by
    refine hTx.mono ?_
    rintro e w' ⟨A, c, rfl, h1, h2⟩
    exact ⟨_, rfl, A, c, rfl, h1, h2⟩
  have HTX := Lib.hid hTx2
  clear hTx hTx2
  have HS := fun (W : World) (cs cs' : List Value) (h1 : Rep0 W VA cs) (h2 : Rep0 W VA cs') => (lawsame_any VA VA cs cs' W h1 h2).mono (R' := fun e w' => ∃ r, e = .returned r ∧ (r = .bool true ∧ Below W.heap.size W w')) (fun e w' h => ⟨_, h.1, by rw [sameR_refl], h.2⟩)
  have HSM := @Lib.hid _ @HS
  clear HS
  go_region_law (first
    | (refine step_call1E 44 rfl (.const (.string ⟨#[97]⟩)) _ rfl rfl (enters_of Tryd.func44 (by kernel_rfl) rfl) HTX.out ?_; rintro r6 w6 ⟨A6, c6, rfl, hr6, hb6⟩; have HR6 := Lib.hid hr6.old; have HB6 := Lib.hid hb6; have x0 := below_cell hb6 z0; have x1 := below_cell hb6 z1; have x2 := below_cell hb6 z2; have x3 := below_cell hb6 z3; have x4 := below_cell hb6 z4; clear hr6)
    | (refine step_call2E 17 rfl (.tmp 27) (.tmp 28) _ rfl rfl rfl (enters_of Tryd.func17 (by kernel_rfl) rfl) (HSM.out w6 _ _ (HR5.out.below (below_step (Below.refl _ _).drew (Nat.le_refl _) HB6.out)) HR6.out) ?_; rintro r7 w7 ⟨rfl, hb7⟩))
  all_goals
    go_wp2_with fail
    go_ret
    exact ⟨rfl, below_step (below_step (below_step HB12.out (Nat.le_refl _) HB25.out.drew) (Nat.le_refl _) HB6.out) (Nat.le_refl _) hb7⟩
end Go.Proofs.YtljdfainnmpjnaaDoor

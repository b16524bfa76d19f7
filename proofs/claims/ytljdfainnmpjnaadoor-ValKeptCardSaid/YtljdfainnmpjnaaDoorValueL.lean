/- The program's reader of values: lists. -/
import Derived.Test.YtljdfainnmpjnaaDoorStepCall
import Derived.Test.YtljdfainnmpjnaaDoorTItems
import Derived.Deep.RegionLaw
set_option linter.unusedVariables false
namespace Go.Proofs.YtljdfainnmpjnaaDoor
open Go.RowKit

def joinL (vs : List V) : Except Int (List V × List UInt8) → Got
  | .error e => .error e
  | .ok (l, bs) => .ok (.mk 7 0 [] (vs ++ l) [], bs)
theorem items_zero (p : List UInt8 → Got) (bs : List UInt8) : items p 0 bs = .ok ([], bs) := rfl
theorem joinL_no {p : List UInt8 → Got} {m : Nat} {bs : List UInt8} {e : Int} (vs : List V) (h : p bs = .error e) : joinL vs (items p (m + 1) bs) = .error e := by
  unfold items; rw [h]; rfl
theorem joinL_ok {p : List UInt8 → Got} {m : Nat} {bs bs' : List UInt8} {v : V} (vs : List V) (h : p bs = .ok (v, bs')) : joinL vs (items p (m + 1) bs) = joinL (vs ++ [v]) (items p m bs') := by
  conv => lhs; unfold items
  rw [h]
  dsimp only
  rcases items p m bs' with e | ⟨l, bs''⟩
  · rfl
  · simp [joinL]
theorem body7 (p : List UInt8 → Got) (bs : List UInt8) : body (some p) 7 bs = match bs with | [] => .error 4 | n :: bs => if 64 < n.toNat then .error 19 else joinL [] (items p n.toNat bs) := by
  have e : body (some p) 7 bs = match bs with
      | [] => .error 4
      | n :: bs => if 64 < n.toNat then .error 19 else match items p n.toNat bs with
        | .error e => .error e
        | .ok (l, bs) => .ok (.mk 7 0 [] l [], bs) := rfl
  rw [e]
  cases bs with
  | nil => rfl
  | cons n bs =>
    dsimp only
    split
    · rfl
    · rcases items p n.toNat bs with e | ⟨l, bs'⟩ <;> rfl

set_option maxRecDepth 100000 in
set_option maxHeartbeats 1000000 in
theorem value_deep7 (d : Int) (hd : decide (d < 16) = false) (x : UInt8) (bs : List UInt8) (hx : x.toNat = 7) (w : World) (S : Nat → Prop) (r : Nat) (hR : Reads w S r (x :: bs)) (hS : ∀ k, S k → k < w.heap.size) (hT : Tabs w) (t0 : r ≠ 0) (t1 : r ≠ 1) :
    Calls Tryd.prog 41 #[.pointer (some ⟨r, 0, none⟩), .int .i64 d] w (TellsT w S r (.error 3)) := by
  have v0 := VS.start hR hS hT t0 t1 vzero
  obtain ⟨k, hk⟩ : ∃ k : Int, (x.toNat : Int) = k := ⟨_, rfl⟩
  have hx : k = 7 := by omega
  go_enter Tryd.func41, Tryd.ntmps41
  go_wp2_with fail
  refine (byte_ok S r x bs _ v0.reads).mono ?_
  rintro e w1 ⟨rfl, hr1, hg, hs⟩
  rw [hk]
  clear hk
  subst hx
  have v1 := v0.call hg hr1
  have f0 := v1.free 0
  have z0 := v1.cell 0
  have v2 := v1.set 0 (.int .i64 7)
  have c0 := v2.cell 0
  clear v0 v1 hg hr1 hs hR
  go_wp2_with fail
  refine (must_ok _ _).mono ?_
  rintro e w2 ⟨rfl, rfl⟩
  go_wp2_with fail
  refine (must_no _ _).mono ?_
  rintro e w3 ⟨rfl, rfl⟩
  exact ⟨rfl, TellsT.no v2.grown⟩

set_option maxRecDepth 100000 in
set_option maxHeartbeats 4000000 in
theorem value_7 (p : List UInt8 → Got) (d : Int) (hd0 : 0 ≤ d) (hd : d < 16) (x : UInt8) (bs : List UInt8) (hx : x.toNat = 7) (w : World) (S : Nat → Prop) (r : Nat)
    (IH : ∀ (W : World) (bs' : List UInt8), Reads W S r bs' → (∀ k, S k → k < W.heap.size) → Tabs W → Calls Tryd.prog 41 #[.pointer (some ⟨r, 0, none⟩), .int .i64 (d + 1)] W (TellsT W S r (p bs')))
    (hR : Reads w S r (x :: bs)) (hS : ∀ k, S k → k < w.heap.size) (hT : Tabs w) (t0 : r ≠ 0) (t1 : r ≠ 1) :
    Calls Tryd.prog 41 #[.pointer (some ⟨r, 0, none⟩), .int .i64 d] w (TellsT w S r (body (some p) 7 bs)) := by
  obtain ⟨G, hG⟩ : ∃ G, body (some p) 7 bs = G := ⟨_, rfl⟩
  rw [hG]
  rw [body7] at hG
  have HG := Lib.hid hG
  clear hG
  obtain ⟨i0, hi, hzz⟩ := Option.map_eq_some_iff.1 info27
  simp only [Prod.mk.injEq] at hzz
  obtain ⟨hz0, hz1, hz2⟩ := hzz
  have HI := Lib.hid hi
  have HZ0 := Lib.hid hz0
  have HZ1 := Lib.hid hz1
  have HZ2 := Lib.hid hz2
  have HIH := @Lib.hid _ @IH
  clear hi hz0 hz1 hz2 IH
  have v0 := VS.start hR hS hT t0 t1 vzero
  obtain ⟨k, hk⟩ : ∃ k : Int, (x.toNat : Int) = k := ⟨_, rfl⟩
  have hx : k = 7 := by omega
  go_enter Tryd.func41, Tryd.ntmps41
  go_wp2_with fail
  refine (byte_ok S r x bs _ v0.reads).mono ?_
  rintro e w1 ⟨rfl, hr1, hg, hs⟩
  rw [hk]
  clear hk
  subst hx
  have v1 := v0.call hg hr1
  have f0 := v1.free 0
  have z0 := v1.cell 0
  have v2 := v1.set 0 (.int .i64 7)
  have c0 := v2.cell 0
  clear v0 v1 hg hr1 hs hR
  go_wp2_with fail
  refine (must_ok _ _).mono ?_
  rintro e w2 ⟨rfl, rfl⟩
  go_wp2_with fail
  refine (must_ok _ _).mono ?_
  rintro e w3 ⟨rfl, rfl⟩
  go_wp2_with fail
  clear f0 z0 c0
  have v2 : VS w S r w.heap.size bs #[.int .i64 7, .int .u64 0, .slice none 0 0, .slice none 0 0, .slice none 0 0] _ := v2
  generalize w1.setCell ⟨w.heap.size, 0, none⟩ _ = w2 at v2 ⊢
  cases bs with
  | nil =>
    have hg := HG.out
    dsimp only at hg
    subst hg
    refine (many_no0 S r _ v2.reads).mono ?_
    rintro e w3 ⟨rfl, rfl⟩
    exact ⟨rfl, TellsT.no v2.grown⟩
  | cons y bs =>
  have hg := HG.out
  dsimp only at hg
  by_cases hy : 64 < y.toNat
  · rw [if_pos hy] at hg
    subst hg
    refine (many_no S r y bs _ v2.reads hy).mono ?_
    rintro e w3 ⟨rfl, hg3, -⟩
    exact ⟨rfl, TellsT.no (grown_trans v2.grown hg3 (.inl rfl))⟩
  rw [if_neg hy] at hg
  refine (many_ok S r y bs _ v2.reads (by omega)).mono ?_
  rintro e w3 ⟨rfl, hr3, hg3, -⟩
  obtain ⟨n, hn⟩ : ∃ n, y.toNat = n := ⟨_, rfl⟩
  rw [hn] at hg hy ⊢
  have v3 := v2.call hg3 hr3
  have HG := Lib.hid hg
  clear hg v2 hr3 hg3
  obtain ⟨A, c, hb, hr, hc⟩ := v3.reads.blk
  have c0 := cell_blk hb 0
  have hl := v3.reads.len
  clear hb hr
  have hmn : (min (n : Int) (bs.length : Int)) = ((min n bs.length : Nat) : Int) := by omega
  have HMN := Lib.hid hmn
  have HB2 := Lib.hid (show i0.bytes * min n bs.length ≤ 281474976710656 by
    rw [HZ2.out]
    have : min n bs.length ≤ 64 := by omega
    omega)
  have HB3 := Lib.hid (show min n bs.length ≤ maxLen by unfold maxLen; omega)
  clear hmn
  go_upto_region 19 with (at_make; go_must (refine wpList_make_own _ rfl _ _ 24 rfl (w.heap.size + 1) 27 i0 (.agg vzero) 5 Tryd.underlying24 HI.out HZ0.out HZ1.out .i64 .i64 _ (min n bs.length) rfl rfl HMN.out HB2.out HB3.out v3.lt ?_; intro w4 hown hgrow; have v4 := v3.grown' hgrow; have z3 := v4.cell 3; have f3 := v4.free 3))
  have hI0 := TItems.start hown v4.lt
  have v5 := v4.set 3 (.slice (some ⟨w3.heap.size, 0, none⟩) 0 (min n bs.length))
  have v5 : VS w S r w.heap.size bs #[.int .i64 7, .int .u64 0, .slice none 0 0, .slice (some ⟨w3.heap.size, 0, none⟩) 0 (min n bs.length), .slice none 0 0] _ := v5
  have hI := hI0.kept (grown_setCell w4 ⟨w.heap.size, 3, none⟩ (.slice (some ⟨w3.heap.size, 0, none⟩) 0 (min n bs.length))) (fun k e => by cases e; exact Nat.le_refl _)
  have HI0 := Lib.hid hI
  clear hown hgrow hI0 hI
  generalize w4.setCell ⟨w.heap.size, 3, none⟩ _ = W0 at v5 HI0 ⊢
  clear z3 f3 c0 v3 v4
  have HIT := fun (vs : List V) => Lib.hid (show True from trivial)
  go_wp2_with fail
  go_loopg [83] n (fun g t83 wr => ∃ vs css v3 bs', t83 = .int .i64 vs.length ∧ vs.length ≤ n ∧ n ≤ vs.length + g ∧ VS w S r w.heap.size bs' #[.int .i64 7, .int .u64 0, .slice none 0 0, v3, .slice none 0 0] wr ∧ TItems wr w.heap.size v3 vs css ∧ joinL vs (items p (n - vs.length) bs') = G)
  case atStart => exact ⟨[], [], _, bs, rfl, Nat.zero_le _, by simp, v5, HI0.out, HG.out⟩
  case round =>
    clear v5 HI0 HG
    obtain ⟨vs, css, v3, bs', rfl, hvn, hgn, vv, hI, hj⟩ := hrel
    have HII := Lib.hid hI
    clear hI
    by_cases hlt : vs.length < n
    · obtain ⟨m, hm⟩ : ∃ m, n - vs.length = m + 1 := ⟨n - vs.length - 1, by omega⟩
      rw [hm] at hj
      have HJ := Lib.hid hj
      clear hj
      go_upto_region 21 with fail
      have hId := HII.out.below (below_drew wr)
      have vd := vv.below (below_drew wr)
      have HID := Lib.hid hId
      have zd := vd.cell 3
      clear hId
      have hC : Calls Tryd.prog 41 #[.pointer (some ⟨r, 0, none⟩), .int .i64 (d + 1)] wr.drew (Ends (fun x w' =>
          (∃ v bs'' c0 c1 c2 c3 c4, x = .agg #[c0, c1, c2, c3, c4] ∧ joinL (vs ++ [v]) (items p m bs'') = G ∧ (∀ u ∈ [c0, c1, c2, c3, c4], u.oneCell' = true) ∧ TRep w' (fun k => wr.drew.heap.size ≤ k) v [c0, c1, c2, c3, c4] ∧ VS w S r w.heap.size bs'' #[.int .i64 7, .int .u64 0, .slice none 0 0, v3, .slice none 0 0] w' ∧ wr.drew.grownBy w' (some r)))
          (fun c w' => G = .error c ∧ w.grownBy w' (some r))) := by
        refine (HIH.out wr.drew bs' vd.reads (fun k hk => Nat.lt_of_lt_of_le (vd.low k hk) vd.grown.size) vd.tabs).mono ?_
        rcases hp : p bs' with c | ⟨v, bs''⟩
        · rintro e w' ⟨rfl, hg⟩
          exact ⟨c, rfl, by rw [← HJ.out, joinL_no vs hp], grown_trans vd.grown hg (.inl rfl)⟩
        · rintro e w' ⟨cs, rfl, hr, hr2, hg⟩
          obtain ⟨c0, c1, c2, c3, c4, rfl, h1⟩ := hr.five
          exact ⟨v, bs'', c0, c1, c2, c3, c4, rfl, by rw [← HJ.out, joinL_ok vs hp], h1, hr, vd.call hg hr2, hg⟩
      have HC := @Lib.hid _ @hC
      clear hC HJ
      have hrb : r ≤ w.heap.size := Nat.le_of_lt vv.old
      have hn64 : vs.length ≤ 64 := by omega
      have hwd : IntKind.i64.wrap (d + 1) = d + 1 := by simp only [IntKind.wrap_i64]; omega
      go_region_law (first
          | (refine step_f41 rfl (.tmp 87) (.tmp 89) _ rfl rfl rfl HC.out (fun cc w5 hB => by obtain ⟨hG, hg5⟩ := hB; subst hG; exact (show _ ∧ _ from ⟨rfl, TellsT.no hg5⟩)) ?_; rintro xx w5 ⟨v, bs'', c0, c1, c2, c3, c4, rfl, hj2, h1c, hrep, v5, hg5⟩; have HJ := Lib.hid hj2; have z5 := v5.cell 3; have hI5 := HID.out.kept hg5 (fun k e => by cases e; exact hrb); have HI5 := Lib.hid (hI5.below ((Below.refl _ _).alloc (Nat.le_refl _) (.cells #[c0, c1, c2, c3, c4] 27))); have v5b := v5.below ((Below.refl _ _).alloc (Nat.le_refl _) (.cells #[c0, c1, c2, c3, c4] 27)); have z5b := v5b.cell 3; have H1C := Lib.hid h1c; have HREP := Lib.hid hrep; clear h1c hrep hI5 hj2)
          | (refine step_app_one rfl (.tmp 86) (.tmp 91) 24 27 rfl i0 (.agg vzero) 5 88 Tryd.underlying24 HI.out HZ0.out HZ1.out HZ2.out rfl (by decide) (w.heap.size + 1) vs.length v3 css.flatten rfl HI5.out.own w5.heap.size [c0, c1, c2, c3, c4] rfl rfl (heap_alloc_new _ _) H1C.out hn64 (by decide) v5b.lt ?_; intro v6 w6 ho6 hg6 hat6; have w6s := v5b.app hg6 (fun k hk => (World.ownsRow.lt HI5.out.own k hk).1); have z6 := w6s.cell 3; have f6 := w6s.free 3; obtain ⟨A6, c6, rfl⟩ := ownsRow_slice ho6))
      all_goals
          clear HC HID zd z5 z5b
          have v7 := w6s.set 3 (.slice A6 (vs.length + 1) c6)
          have v7 : VS w S r w.heap.size bs'' #[.int .i64 7, .int .u64 0, .slice none 0 0, .slice A6 (vs.length + 1) c6, .slice none 0 0] _ := v7
          have hlow := vd.lt
          have hrep2 := ((HREP.out.kept (Keeps.of_below ((Below.refl _ w5).alloc (Nat.le_refl _) (.cells #[c0, c1, c2, c3, c4] 27)) _ (fun k hk _ => hk))).mono (S' := fun k => w.heap.size < k ∧ some k ≠ v3.ownBlock) (fun k hk hS => ⟨Nat.lt_of_lt_of_le hlow hS, fun e => absurd ((World.ownsRow.lt HII.out.own k e.symm).2) (Nat.not_lt_of_le hS)⟩))
          have HI7 := Lib.hid ((HI5.out.push hrep2 ho6 hg6 hat6).kept (grown_setCell w6 ⟨w.heap.size, 3, none⟩ (.slice A6 (vs.length + 1) c6)) (fun k e => by cases e; exact Nat.le_refl _))
          clear HREP hrep2 ho6 hg6 hat6 HI5 HII hlow
          go_wp2_with fail
          go_roundg (gk - 1)
          case measure => omega
          case rel =>
            refine ⟨vs ++ [v], css ++ [[c0, c1, c2, c3, c4]], .slice A6 (vs.length + 1) c6, bs'', ?_, by simp; omega, by simp; omega, v7, HI7.out, ?_⟩
            · simp
            · have e : n - (vs ++ [v]).length = m := by simp; omega
              rw [e]
              exact HJ.out
    · obtain rfl : vs.length = n := by omega
      rw [Nat.sub_self, items_zero] at hj
      dsimp only [joinL] at hj
      rw [List.append_nil] at hj
      subst hj
      obtain ⟨A3, c3, rfl⟩ := ownsRow_slice HII.out.own
      have v5 := vv.again
      have e0 := vv.cell 0; have e1 := vv.cell 1; have e2 := vv.cell 2; have e3 := vv.cell 3; have e4 := vv.cell 4
      have f0' := vv.free 0; have f1' := vv.free 1; have f2' := vv.free 2; have f3 := vv.free 3; have f4 := vv.free 4
      have H10 := Lib.hid (trep_again (HII.out.done (by omega)) (Nat.lt_irrefl _) (.int .i64 7) (.int .u64 0) (.slice none 0 0) (.slice A3 vs.length c3) (.slice none 0 0))
      clear HII
      go_wp2_with fail
      refine bodyPost_ret (value_done v5 _ rfl) rfl ?_
      exact TellsT.yes (H10.out.mono (fun k _ h => by omega)) v5.reads v5.grown
end Go.Proofs.YtljdfainnmpjnaaDoor

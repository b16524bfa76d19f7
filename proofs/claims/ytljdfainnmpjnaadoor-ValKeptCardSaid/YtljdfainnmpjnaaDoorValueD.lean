/- The program's reader of values: documents. -/
import Derived.Test.YtljdfainnmpjnaaDoorFlds
import Derived.Test.YtljdfainnmpjnaaDoorStepCall
import Derived.Test.YtljdfainnmpjnaaDoorTItems
import Derived.Deep.RegionLaw
set_option linter.unusedVariables false
namespace Go.Proofs.YtljdfainnmpjnaaDoor
open Go.RowKit

def joinF (fs : List (ByteArray × V)) : Except Int (List (ByteArray × V) × List UInt8) → Got
  | .error e => .error e
  | .ok (l, bs) => .ok (.mk 8 0 [] [] (fs ++ l), bs)
theorem fields_zero (p : List UInt8 → Got) (met : List ByteArray) (bs : List UInt8) : fields p 0 met bs = .ok ([], bs) := rfl
theorem joinF_no1 {p : List UInt8 → Got} {m : Nat} {met : List ByteArray} {bs : List UInt8} {e : Int} (fs : List (ByteArray × V)) (h : fieldName met bs = .error e) : joinF fs (fields p (m + 1) met bs) = .error e := by
  unfold fields; rw [h]; rfl
theorem joinF_no2 {p : List UInt8 → Got} {m : Nat} {met : List ByteArray} {bs bs' : List UInt8} {e : Int} {s : ByteArray} (fs : List (ByteArray × V)) (h : fieldName met bs = .ok (s, bs')) (h2 : p bs' = .error e) : joinF fs (fields p (m + 1) met bs) = .error e := by
  unfold fields; rw [h]; dsimp only; rw [h2]; rfl
theorem joinF_ok {p : List UInt8 → Got} {m : Nat} {met : List ByteArray} {bs bs' bs2 : List UInt8} {v : V} {s : ByteArray} (fs : List (ByteArray × V)) (h : fieldName met bs = .ok (s, bs')) (h2 : p bs' = .ok (v, bs2)) :
    joinF fs (fields p (m + 1) met bs) = joinF (fs ++ [(s, v)]) (fields p m (s :: met) bs2) := by
  conv => lhs; unfold fields
  rw [h]
  dsimp only
  rw [h2]
  dsimp only
  rcases fields p m (s :: met) bs2 with e | ⟨l, bs3⟩
  · rfl
  · simp [joinF]
theorem fieldName_nil (met : List ByteArray) : fieldName met [] = .error 4 := rfl
theorem fieldName_short {met : List ByteArray} {x : UInt8} {bs : List UInt8} (h : bs.length < x.toNat) : fieldName met (x :: bs) = .error 4 := by
  unfold fieldName; dsimp only; rw [if_pos h]
theorem fieldName_ok {met : List ByteArray} {x : UInt8} {bs : List UInt8} (h : ¬ bs.length < x.toNat) (h2 : nameR ⟨(bs.take x.toNat).toArray⟩ = true) (h3 : (⟨(bs.take x.toNat).toArray⟩ : ByteArray) ∉ met) : fieldName met (x :: bs) = .ok (⟨(bs.take x.toNat).toArray⟩, bs.drop x.toNat) := by
  unfold fieldName; dsimp only; rw [if_neg h, if_pos ⟨h2, h3⟩]
theorem fieldName_no {met : List ByteArray} {x : UInt8} {bs : List UInt8} (h : ¬ bs.length < x.toNat) (h2 : ¬ (nameR ⟨(bs.take x.toNat).toArray⟩ = true ∧ (⟨(bs.take x.toNat).toArray⟩ : ByteArray) ∉ met)) : fieldName met (x :: bs) = .error 4 := by
  unfold fieldName; dsimp only; rw [if_neg h, if_neg h2]
theorem body8 (p : List UInt8 → Got) (bs : List UInt8) : body (some p) 8 bs = match bs with | [] => .error 4 | n :: bs => if 64 < n.toNat then .error 19 else joinF [] (fields p n.toNat [] bs) := by
  have e : body (some p) 8 bs = match bs with
      | [] => .error 4
      | n :: bs => if 64 < n.toNat then .error 19 else match fields p n.toNat [] bs with
        | .error e => .error e
        | .ok (l, bs) => .ok (.mk 8 0 [] [] l, bs) := rfl
  rw [e]
  cases bs with
  | nil => rfl
  | cons n bs =>
    dsimp only
    split
    · rfl
    · rcases fields p n.toNat [] bs with e | ⟨l, bs'⟩ <;> rfl

set_option maxRecDepth 100000 in
set_option maxHeartbeats 1000000 in
theorem value_deep8 (d : Int) (hd : decide (d < 16) = false) (x : UInt8) (bs : List UInt8) (hx : x.toNat = 8) (w : World) (S : Nat → Prop) (r : Nat) (hR : Reads w S r (x :: bs)) (hS : ∀ k, S k → k < w.heap.size) (hT : Tabs w) (t0 : r ≠ 0) (t1 : r ≠ 1) :
    Calls Tryd.prog 41 #[.pointer (some ⟨r, 0, none⟩), .int .i64 d] w (TellsT w S r (.error 3)) := by
  have v0 := VS.start hR hS hT t0 t1 vzero
  obtain ⟨k, hk⟩ : ∃ k : Int, (x.toNat : Int) = k := ⟨_, rfl⟩
  have hx : k = 8 := by omega
  go_enter Tryd.func41, Tryd.ntmps41
  go_wp2_with fail
  refine (byte_ok S r x bs _ v0.reads).mono ?_
  rintro e w1 ⟨rfl, hr1, hg, hs⟩
  rw [hk]
  clear hk
  subst hx
  have v1 := v0.call hg hr1
  have f0 := v1.free 0
  have z0 := v1.cell 0
  have v2 := v1.set 0 (.int .i64 8)
  have c0 := v2.cell 0
  clear v0 v1 hg hr1 hs hR
  go_wp2_with fail
  refine (must_ok _ _).mono ?_
  rintro e w2 ⟨rfl, rfl⟩
  go_wp2_with fail
  refine (must_no _ _).mono ?_
  rintro e w3 ⟨rfl, rfl⟩
  exact ⟨rfl, TellsT.no v2.grown⟩

set_option maxRecDepth 100000 in
set_option maxHeartbeats 4000000 in
theorem value_8 (hV : NameC) (p : List UInt8 → Got) (d : Int) (hd0 : 0 ≤ d) (hd : d < 16) (x : UInt8) (bs : List UInt8) (hx : x.toNat = 8) (w : World) (S : Nat → Prop) (r : Nat)
    (IH : ∀ (W : World) (bs' : List UInt8), Reads W S r bs' → (∀ k, S k → k < W.heap.size) → Tabs W → Calls Tryd.prog 41 #[.pointer (some ⟨r, 0, none⟩), .int .i64 (d + 1)] W (TellsT W S r (p bs')))
    (hR : Reads w S r (x :: bs)) (hS : ∀ k, S k → k < w.heap.size) (hT : Tabs w) (t0 : r ≠ 0) (t1 : r ≠ 1) :
    Calls Tryd.prog 41 #[.pointer (some ⟨r, 0, none⟩), .int .i64 d] w (TellsT w S r (body (some p) 8 bs)) := by
  obtain ⟨G, hG⟩ : ∃ G, body (some p) 8 bs = G := ⟨_, rfl⟩
  rw [hG]
  rw [body8] at hG
  have HG := Lib.hid hG
  clear hG
  obtain ⟨i0, hi, hzz⟩ := Option.map_eq_some_iff.1 info59
  simp only [Prod.mk.injEq] at hzz
  obtain ⟨hz0, hz1, hz2⟩ := hzz
  have HI := Lib.hid hi
  have HZ0 := Lib.hid hz0
  have HZ1 := Lib.hid hz1
  have HZ2 := Lib.hid hz2
  have HIH := @Lib.hid _ @IH
  clear hi hz0 hz1 hz2 IH
  have v0 := VS.start hR hS hT t0 t1 vzero
  obtain ⟨k, hk⟩ : ∃ k : Int, (x.toNat : Int) = k := ⟨_, rfl⟩
  have hx : k = 8 := by omega
  go_enter Tryd.func41, Tryd.ntmps41
  go_wp2_with fail
  refine (byte_ok S r x bs _ v0.reads).mono ?_
  rintro e w1 ⟨rfl, hr1, hg, hs⟩
  rw [hk]
  clear hk
  subst hx
  have v1 := v0.call hg hr1
  have f0 := v1.free 0
  have z0 := v1.cell 0
  have v2 := v1.set 0 (.int .i64 8)
  have c0 := v2.cell 0
  clear v0 v1 hg hr1 hs hR
  go_wp2_with fail
  refine (must_ok _ _).mono ?_
  rintro e w2 ⟨rfl, rfl⟩
  go_wp2_with fail
  refine (must_ok _ _).mono ?_
  rintro e w3 ⟨rfl, rfl⟩
  go_wp2_with fail
  clear f0 z0 c0
  have v2 : VS w S r w.heap.size bs #[.int .i64 8, .int .u64 0, .slice none 0 0, .slice none 0 0, .slice none 0 0] _ := v2
  generalize w1.setCell ⟨w.heap.size, 0, none⟩ _ = w2 at v2 ⊢
  cases bs with
  | nil =>
    have hg := HG.out
    dsimp only at hg
    subst hg
    refine (many_no0 S r _ v2.reads).mono ?_
    rintro e w3 ⟨rfl, rfl⟩
    exact ⟨rfl, TellsT.no v2.grown⟩
  | cons y bs =>
  have hg := HG.out
  dsimp only at hg
  by_cases hy : 64 < y.toNat
  · rw [if_pos hy] at hg
    subst hg
    refine (many_no S r y bs _ v2.reads hy).mono ?_
    rintro e w3 ⟨rfl, hg3, -⟩
    exact ⟨rfl, TellsT.no (grown_trans v2.grown hg3 (.inl rfl))⟩
  rw [if_neg hy] at hg
  refine (many_ok S r y bs _ v2.reads (by omega)).mono ?_
  rintro e w3 ⟨rfl, hr3, hg3, -⟩
  obtain ⟨n, hn⟩ : ∃ n, y.toNat = n := ⟨_, rfl⟩
  rw [hn] at hg hy ⊢
  have v3 := v2.call hg3 hr3
  have HG := Lib.hid hg
  clear hg v2 hr3 hg3
  obtain ⟨A, c, hb, hr, hc⟩ := v3.reads.blk
  have c0 := cell_blk hb 0
  have hl := v3.reads.len
  clear hb hr
  have hmn : (min (n : Int) (bs.length : Int)) = ((min n bs.length : Nat) : Int) := by omega
  have HMN := Lib.hid hmn
  have HB2 := Lib.hid (show i0.bytes * min n bs.length ≤ 281474976710656 by
    rw [HZ2.out]
    have : min n bs.length ≤ 64 := by omega
    omega)
  have HB3 := Lib.hid (show min n bs.length ≤ maxLen by unfold maxLen; omega)
  clear hmn
  go_upto_region 27 with (at_make; go_must (refine wpList_make_own _ rfl _ _ 25 rfl (w.heap.size + 1) 59 i0 (.agg (#[.string ⟨#[]⟩] ++ vzero)) 6 Tryd.underlying25 HI.out HZ0.out HZ1.out .i64 .i64 _ (min n bs.length) rfl rfl HMN.out HB2.out HB3.out v3.lt ?_; intro w4 hown hgrow; have v4 := v3.grown' hgrow; have z3 := v4.cell 4; have f3 := v4.free 4))
  have hI0 := TFlds.start (m := w4.heap.size) hown v4.lt (fun e => Nat.ne_of_lt (World.ownsRow.lt hown w3.heap.size rfl).2 (Option.some.inj e))
  have v5 := v4.set 4 (.slice (some ⟨w3.heap.size, 0, none⟩) 0 (min n bs.length))
  have v5 : VS w S r w.heap.size bs #[.int .i64 8, .int .u64 0, .slice none 0 0, .slice none 0 0, .slice (some ⟨w3.heap.size, 0, none⟩) 0 (min n bs.length)] _ := v5
  have hI := hI0.kept (grown_setCell w4 ⟨w.heap.size, 4, none⟩ (.slice (some ⟨w3.heap.size, 0, none⟩) 0 (min n bs.length))) (fun k e => by cases e; exact .inl (Nat.le_refl _))
  have HI0 := Lib.hid hI
  clear hown hgrow hI0 hI
  have hsz : (w4.setCell ⟨w.heap.size, 4, none⟩ (.slice (some ⟨w3.heap.size, 0, none⟩) 0 (min n bs.length))).heap.size = w4.heap.size := by simp [World.setCell]
  generalize w4.setCell ⟨w.heap.size, 4, none⟩ _ = W0 at v5 HI0 hsz ⊢
  clear z3 f3 c0 v3 v4
  obtain ⟨m, hm⟩ : ∃ m, w4.heap.size = m := ⟨_, rfl⟩
  rw [hm] at hsz HI0
  clear hm
  have hmm := @run_makeMap Tryd.prog
  have v6 := v5.below ((Below.refl _ W0).alloc (Nat.le_refl _) (.map #[] 0))
  have HI1 := Lib.hid (HI0.out.below ((Below.refl _ W0).alloc (Nat.le_refl _) (.map #[] 0)))
  have hbm : w.heap.size < m := hsz ▸ v5.lt
  have hmet := Met.start W0
  go_wp2_with fail
  rw [hsz] at hmet
  generalize W0.alloc (.map #[] 0) = W1 at v6 HI1 hmet ⊢
  have HMET := Lib.hid hmet
  clear hmet HI0 v5 hmm hsz
  go_loopg [113] n (fun g t113 wr => ∃ fs css v3 bs' met, t113 = .int .i64 fs.length ∧ fs.length ≤ n ∧ n ≤ fs.length + g ∧ VS w S r w.heap.size bs' #[.int .i64 8, .int .u64 0, .slice none 0 0, .slice none 0 0, v3] wr ∧ TFlds wr w.heap.size m v3 fs css ∧ Met wr m met ∧ met.length ≤ fs.length ∧ joinF fs (fields p (n - fs.length) met bs') = G)
  case atStart => exact ⟨[], [], _, bs, [], rfl, Nat.zero_le _, by simp, v6, HI1.out, HMET.out, Nat.le_refl _, HG.out⟩
  case round =>
    clear v6 HI1 HMET HG
    obtain ⟨fs, css, v3, bs', met, rfl, hvn, hgn, vv, hI, hmt, hml, hj⟩ := hrel
    have HII := Lib.hid hI
    have HMT := Lib.hid hmt
    clear hI hmt
    by_cases hlt : fs.length < n
    · obtain ⟨q, hq⟩ : ∃ q, n - fs.length = q + 1 := ⟨n - fs.length - 1, by omega⟩
      rw [hq] at hj
      have HJ := Lib.hid hj
      clear hj
      have hrm : r < m := Nat.lt_trans vv.old hbm
      have hrb : r ≤ w.heap.size := Nat.le_of_lt vv.old
      cases bs' with
      | nil =>
        have hgg := HJ.out
        rw [joinF_no1 fs (fieldName_nil met)] at hgg
        subst hgg
        go_wp2_with fail
        refine (byte_no S r _ vv.reads).mono ?_
        rintro e wa ⟨rfl, rfl⟩
        exact ⟨rfl, TellsT.no vv.grown⟩
      | cons y bs1 =>
      go_wp2_with fail
      refine (byte_ok S r y bs1 _ vv.reads).mono ?_
      rintro e wa ⟨rfl, hra, hga, -⟩
      have va := vv.call hga hra
      have HIA := Lib.hid (HII.out.kept hga (fun k e => by cases e; exact .inl hrb))
      have HMA := Lib.hid (HMT.out.kept hga (fun e => by cases e; exact Nat.lt_irrefl _ hrm))
      clear vv HII HMT hga hra
      go_wp2_with fail
      by_cases hl2 : bs1.length < y.toNat
      · have hgg := HJ.out
        rw [joinF_no1 fs (fieldName_short hl2)] at hgg
        subst hgg
        refine (take_no S r bs1 y.toNat _ va.reads (by omega)).mono ?_
        rintro e wb ⟨rfl, rfl⟩
        exact ⟨rfl, TellsT.no va.grown⟩
      refine (take_ok S r bs1 y.toNat _ va.reads (by omega)).mono ?_
      rintro e wb ⟨A2, rfl, hA, hrb2, hgb, -⟩
      have vb := va.call hgb hrb2
      have HIB := Lib.hid (HIA.out.kept hgb (fun k e => by cases e; exact .inl hrb))
      have HMB := Lib.hid (HMA.out.kept hgb (fun e => by cases e; exact Nat.lt_irrefl _ hrm))
      have hlen : y.toNat = (bs1.take y.toNat).length := by simp only [List.length_take]; omega
      have cv := conv_str (c := y.toNat) hlen hA
      have hy8 := y.toNat_lt
      obtain ⟨s, hs⟩ : ∃ s : ByteArray, (⟨(bs1.take y.toNat).toArray⟩ : ByteArray) = s := ⟨_, rfl⟩
      have hsz : s.size ≤ 255 := by rw [← hs]; show (bs1.take y.toNat).toArray.size ≤ 255; simp only [List.size_toArray]; omega
      rw [hs] at cv
      obtain ⟨D, hD1, hD2⟩ := HMB.out
      have HD1 := Lib.hid hD1
      have HD2 := Lib.hid hD2
      have hkey : keyOf Tryd.prog 9 (.string s) = some (.string s.data.toList) := Go.WideMaps.keyOf_string_mk Tryd.underlying9 (by unfold maxLen; omega)
      have HKEY := Lib.hid hkey
      clear va HIA HMA HMB hgb hrb2 hD1 hD2 hkey hA hlen
      go_upto_region 32 with (at_lookup; go_must (refine wpList_lookup_own_unit _ rfl _ _ 88 rfl 9 89 keyed9 Tryd.underlying88 (zero89 _) m met.length D rfl HD1.out _ (.string s.data.toList) rfl HKEY.out ?_))
      have HIC := Lib.hid (HIB.out.below ((Below.refl _ wb).alloc (Nat.le_refl _) (.cells #[] 89)))
      have HDC := Lib.hid (HD1.out.alloc (.cells #[] 89))
      have vc := vb.below ((Below.refl _ wb).alloc (Nat.le_refl _) (.cells #[] 89))
      generalize wb.alloc (.cells #[] 89) = wc at vc HIC HDC ⊢
      obtain ⟨bm, hbmet⟩ : ∃ bm, Maps.has D (.string s.data.toList) = bm := ⟨_, rfl⟩
      rw [hbmet]
      have hiff := HD2.out s
      rw [hbmet] at hiff
      clear hbmet vb HIB cv HD1
      have HIFF := Lib.hid hiff
      have HS := Lib.hid hs
      have HVN := Lib.hid (hV s wc vc.tabs (by omega))
      clear hiff hs
      go_wp2_with fail
      refine HVN.out.mono ?_
      rintro e wd ⟨rfl, hbd⟩
      have vd := vc.below hbd
      have HID := Lib.hid (HIC.out.below hbd)
      have HDD := Lib.hid (HDC.out.kept (grown_of_below hbd none) (by simp))
      clear vc HIC HDC HVN hbd
      by_cases hgood : nameR s = true ∧ bm = false
      · obtain ⟨hn1, rfl⟩ := hgood
        rw [hn1]
        have hfn := fieldName_ok hl2 (by rw [HS.out]; exact hn1) (met := met) (fun hin => by rw [HS.out] at hin; exact absurd (HIFF.out.2 hin) (by simp))
        rw [HS.out] at hfn
        have HFN := Lib.hid hfn
        clear hfn hn1
        go_wp2_with fail
        refine (must_ok _ _).mono ?_
        rintro e we ⟨rfl, rfl⟩
        have HN := Lib.hid (show met.length < maxLen by unfold maxLen; omega)
        go_upto_region 34 with (at_mapUpdate; go_must (refine wpList_mapUpdate_own _ rfl _ _ _ 88 rfl 9 89 keyed9 Tryd.underlying88 (unitElem (H := Unit)) m met.length D rfl HDD.out HN.out _ _ (.string s.data.toList) rfl rfl HKEY.out (.agg []) [] unitElem_mk ?_; intro wf hown1 hgrow1))
        have vf := vd.app hgrow1 (fun k hk => by cases hk; exact hbm)
        have HIF := Lib.hid (HID.out.kept hgrow1 (fun k hk => by cases hk; exact .inr rfl))
        have HMF := Lib.hid (show Met wf m (s :: met) from ⟨_, hown1, has_put HDD.out.isMap HD2.out s⟩)
        clear vd HID HDD hown1 hgrow1 HD2 HKEY HN HIFF HS
        have vd := vf.below (below_drew wf)
        have HID := Lib.hid (HIF.out.below (below_drew wf))
        have HMD := Lib.hid (HMF.out.below (below_drew wf))
        have zd := vd.cell 4
        have hC : Calls Tryd.prog 41 #[.pointer (some ⟨r, 0, none⟩), .int .i64 (d + 1)] wf.drew (Ends (fun x w' =>
            (∃ v bs'' c0 c1 c2 c3 c4, x = .agg #[c0, c1, c2, c3, c4] ∧ joinF (fs ++ [(s, v)]) (fields p q (s :: met) bs'') = G ∧ (∀ u ∈ [.string s, c0, c1, c2, c3, c4], u.oneCell' = true) ∧ TRep w' (fun k => wf.drew.heap.size ≤ k) v [c0, c1, c2, c3, c4] ∧ VS w S r w.heap.size bs'' #[.int .i64 8, .int .u64 0, .slice none 0 0, .slice none 0 0, v3] w' ∧ wf.drew.grownBy w' (some r)))
            (fun c w' => G = .error c ∧ w.grownBy w' (some r))) := by
          refine (HIH.out wf.drew _ vd.reads (fun k hk => Nat.lt_of_lt_of_le (vd.low k hk) vd.grown.size) vd.tabs).mono ?_
          rcases hp : p (bs1.drop y.toNat) with c | ⟨v, bs''⟩
          · rintro e w' ⟨rfl, hg⟩
            exact ⟨c, rfl, by rw [← HJ.out, joinF_no2 fs HFN.out hp], grown_trans vd.grown hg (.inl rfl)⟩
          · rintro e w' ⟨cs, rfl, hr, hr2, hg⟩
            obtain ⟨c0, c1, c2, c3, c4, rfl, h1⟩ := hr.five
            refine ⟨v, bs'', c0, c1, c2, c3, c4, rfl, by rw [← HJ.out, joinF_ok fs HFN.out hp], ?_, hr, vd.call hg hr2, hg⟩
            intro u hu
            rcases List.mem_cons.1 hu with rfl | hu
            · rfl
            · exact h1 u hu
        have HC := @Lib.hid _ @hC
        clear hC HJ
        have hn64 : fs.length ≤ 64 := by omega
        have hwd : IntKind.i64.wrap (d + 1) = d + 1 := by simp only [IntKind.wrap_i64]; omega
        go_region_law (first
          | (refine step_f41 rfl (.tmp 139) (.tmp 141) _ rfl rfl rfl HC.out (fun cc w5 hB => by obtain ⟨hG, hg5⟩ := hB; subst hG; exact (show _ ∧ _ from ⟨rfl, TellsT.no hg5⟩)) ?_; rintro xx w5 ⟨v, bs'', c0, c1, c2, c3, c4, rfl, hj2, h1c, hrep, v5, hg5⟩; have HJ := Lib.hid hj2; have z5 := v5.cell 4; have hI5 := HID.out.kept hg5 (fun k e => by cases e; exact .inl hrb); have HM5 := Lib.hid (HMD.out.kept hg5 (fun e => by cases e; exact Nat.lt_irrefl _ hrm)); have HI5 := Lib.hid (hI5.below ((Below.refl _ _).alloc (Nat.le_refl _) (.cells #[.string s, c0, c1, c2, c3, c4] 59))); have v5b := v5.below ((Below.refl _ _).alloc (Nat.le_refl _) (.cells #[.string s, c0, c1, c2, c3, c4] 59)); have z5b := v5b.cell 4; have H1C := Lib.hid h1c; have HREP := Lib.hid hrep; clear h1c hrep hI5 hj2)
          | (refine step_app_one rfl (.tmp 137) (.tmp 144) 25 59 rfl i0 (.agg (#[.string ⟨#[]⟩] ++ vzero)) 6 104 Tryd.underlying25 HI.out HZ0.out HZ1.out HZ2.out rfl (by decide) (w.heap.size + 1) fs.length v3 css.flatten rfl HI5.out.own w5.heap.size [.string s, c0, c1, c2, c3, c4] rfl rfl (heap_alloc_new _ _) H1C.out hn64 (by decide) v5b.lt ?_; intro v6 w6 ho6 hg6 hat6; have w6s := v5b.app hg6 (fun k hk => (World.ownsRow.lt HI5.out.own k hk).1); have z6 := w6s.cell 4; have f6 := w6s.free 4; obtain ⟨A6, c6, rfl⟩ := ownsRow_slice ho6))
        all_goals
          clear HC HID zd z5 z5b
          have v7 := w6s.set 4 (.slice A6 (fs.length + 1) c6)
          have v7 : VS w S r w.heap.size bs'' #[.int .i64 8, .int .u64 0, .slice none 0 0, .slice none 0 0, .slice A6 (fs.length + 1) c6] _ := v7
          have hlow := vd.lt
          have hmlow : m < w5.heap.size := HM5.out.lt
          have hrep2 := ((HREP.out.kept (Keeps.of_below ((Below.refl _ w5).alloc (Nat.le_refl _) (.cells #[.string s, c0, c1, c2, c3, c4] 59)) _ (fun k hk _ => hk))).mono (S' := fun k => (w.heap.size < k ∧ k ≠ m) ∧ some k ≠ v3.ownBlock) (fun k hk hS => ⟨⟨Nat.lt_of_lt_of_le hlow hS, fun e => by subst e; exact absurd HMD.out.lt (Nat.not_lt_of_le hS)⟩, fun e => absurd ((World.ownsRow.lt HIF.out.own k e.symm).2) (Nat.not_lt_of_le hS)⟩))
          have HI7 := Lib.hid ((HI5.out.push (s := s) (by omega) hrep2 (by simp; omega) ho6 hg6 hat6).kept (grown_setCell w6 ⟨w.heap.size, 4, none⟩ (.slice A6 (fs.length + 1) c6)) (fun k e => by cases e; exact .inl (Nat.le_refl _)))
          have HM7 := Lib.hid (((HM5.out.below ((Below.refl _ _).alloc (Nat.le_refl _) (.cells #[.string s, c0, c1, c2, c3, c4] 59))).kept hg6 (fun e => HI5.out.ne e.symm)).kept (grown_setCell w6 ⟨w.heap.size, 4, none⟩ (.slice A6 (fs.length + 1) c6)) (fun e => by cases e; exact Nat.lt_irrefl _ hbm))
          clear HREP hrep2 ho6 hg6 hat6 HI5 HIF HM5 HMD HMF hlow hmlow
          go_wp2_with fail
          go_roundg (gk - 1)
          case measure => omega
          case rel =>
            refine ⟨fs ++ [(s, v)], css ++ [[.string s, c0, c1, c2, c3, c4]], .slice A6 (fs.length + 1) c6, bs'', s :: met, ?_, by simp; omega, by simp; omega, v7, HI7.out, HM7.out, by simp; omega, ?_⟩
            · simp
            · have e : n - (fs ++ [(s, v)]).length = q := by simp; omega
              rw [e]
              exact HJ.out
      · have hfn := fieldName_no hl2 (met := met) (fun h => hgood (by
          rw [HS.out] at h
          refine ⟨h.1, ?_⟩
          cases bm with
          | false => rfl
          | true => exact absurd (HIFF.out.1 rfl) h.2))
        have hgg := HJ.out
        rw [joinF_no1 fs hfn] at hgg
        subst hgg
        clear hfn
        cases hn1 : nameR s with
        | false =>
          go_wp2_with fail
          refine (must_no _ _).mono ?_
          rintro e we ⟨rfl, rfl⟩
          exact ⟨rfl, TellsT.no vd.grown⟩
        | true =>
          obtain rfl : bm = true := by
            cases bm with
            | true => rfl
            | false => exact absurd ⟨hn1, rfl⟩ hgood
          clear hn1 hgood
          go_wp2_with fail
          refine (must_no _ _).mono ?_
          rintro e we ⟨rfl, rfl⟩
          exact ⟨rfl, TellsT.no vd.grown⟩
    · obtain rfl : fs.length = n := by omega
      rw [Nat.sub_self, fields_zero] at hj
      dsimp only [joinF] at hj
      rw [List.append_nil] at hj
      subst hj
      obtain ⟨A3, c3, rfl⟩ := ownsRow_slice HII.out.own
      have v5 := vv.again
      have e0 := vv.cell 0; have e1 := vv.cell 1; have e2 := vv.cell 2; have e3 := vv.cell 3; have e4 := vv.cell 4
      have f0' := vv.free 0; have f1' := vv.free 1; have f2' := vv.free 2; have f3 := vv.free 3; have f4 := vv.free 4
      have H10 := Lib.hid (trep_again (HII.out.done (by omega)) (Nat.lt_irrefl _) (.int .i64 8) (.int .u64 0) (.slice none 0 0) (.slice none 0 0) (.slice A3 fs.length c3))
      clear HII HMT
      go_wp2_with fail
      refine bodyPost_ret (value_done v5 _ rfl) rfl ?_
      exact TellsT.yes (H10.out.mono (fun k _ h => by omega)) v5.reads v5.grown
end Go.Proofs.YtljdfainnmpjnaaDoor

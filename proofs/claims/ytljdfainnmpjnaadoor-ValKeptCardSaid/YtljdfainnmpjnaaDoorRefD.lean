/- The reference's reader of values: documents. -/
import Derived.Test.YtljdfainnmpjnaaDoorRefL
import Derived.Test.YtljdfainnmpjnaaDoorValueD
set_option linter.unusedVariables false
namespace Go.Proofs.YtljdfainnmpjnaaDoor
open Go.RowKit

/-- The names met, the last first. -/
def metOf (fs : List (ByteArray × V)) : List ByteArray := (fs.map (·.1)).reverse
theorem metOf_snoc (fs : List (ByteArray × V)) (s : ByteArray) (v : V) : metOf (fs ++ [(s, v)]) = s :: metOf fs := by simp [metOf]
theorem mem_metOf {fs : List (ByteArray × V)} {s : ByteArray} : s ∈ metOf fs ↔ ∃ k, ∃ h : k < fs.length, (fs[k]).1 = s := by
  unfold metOf
  rw [List.mem_reverse, List.mem_map]
  constructor
  · rintro ⟨p, hp, rfl⟩
    obtain ⟨k, h, rfl⟩ := List.getElem_of_mem hp
    exact ⟨k, h, rfl⟩
  · rintro ⟨k, h, rfl⟩
    exact ⟨fs[k], List.getElem_mem h, rfl⟩
/-- The fields' row, as it lies. -/
theorem Flds.row {W : World} {b m : Nat} {v : Value} {fs : List (ByteArray × V)} {css : List (List Value)} (h : Flds W b m v fs css) :
    ∃ A c, v = .slice A fs.length c ∧ ∀ k (hk : k < fs.length), ∃ bb o, A = some ⟨bb, o, none⟩ ∧ W.cell? ⟨bb, o + k * 6, none⟩ = some (.string (fs[k]).1) := by
  have h6 := h.css6
  obtain ⟨A, c, hv, hc, hm, hr⟩ := own_row h.own (fun j => css.getD j []) (fun i hi => ⟨by
      obtain ⟨d, h1, h2, h3⟩ := h.rep i hi
      obtain ⟨c0, c1, c2, c3, c4, rfl, -⟩ := h3.five
      rw [h1]; rfl, fun j hj => flat_get 6 css h6 i (by rw [h.len]; exact hi) j hj⟩) (fun k => b < k) (fun k hk => by have := (World.ownsRow.lt h.own k hk).1; omega)
  refine ⟨A, c, hv, fun k hk => ?_⟩
  obtain ⟨bb, o, hA, -, -, hcell⟩ := hr (by omega)
  obtain ⟨hlen, hc2⟩ := hcell k hk
  refine ⟨bb, o, hA, ?_⟩
  have := hc2 0 (by omega)
  obtain ⟨d, h1, -⟩ := h.rep k hk
  dsimp only at this
  rw [h1] at this
  simpa using this

set_option maxRecDepth 100000 in
set_option maxHeartbeats 8000000 in
theorem ref_8 (p : List UInt8 → Got) (hp : Faulty p) (above : Int) (ha0 : 0 ≤ above) (ha : above < 16) (at' : Nat) (bs : List UInt8) (A : Option Addr) (c : Nat) (w : World) (hA : BRow0 w A bs) (hl : bs.length ≤ 4096) (hcl : bs.length ≤ c) (h : at' < bs.length) (hx : (bs[at']).toNat = 8)
    (IH : ∀ (W : World) (n : Nat), BRow0 W A bs → n ≤ bs.length → Calls Tryd.prog 43 #[.slice A bs.length c, .int .i64 n, .int .i64 (above + 1)] W (RTells W bs (p (bs.drop n)))) :
    Calls Tryd.prog 43 #[.slice A bs.length c, .int .i64 at', .int .i64 above] w (RTells w bs (body (some p) 8 (bs.drop (at' + 1)))) := by
  obtain ⟨G, hG⟩ : ∃ G, body (some p) 8 (bs.drop (at' + 1)) = G := ⟨_, rfl⟩
  rw [hG]
  rw [body8] at hG
  have hA0 := hA
  obtain ⟨b, o, rfl, hc⟩ := byte_at hA h
  have hz : (at' : Int) < (bs.length : Int) := by omega
  have hza : ¬ (16 : Int) ≤ above := by omega
  have c0 : ∀ X Y, ((w.alloc X).alloc Y).cell? ⟨b, o + at', none⟩ = some (.int .u8 8) := fun X Y => by rw [hc _ (below2 w X Y) at' h, hx]; rfl
  by_cases h1 : at' + 1 < bs.length
  case neg =>
    rw [List.drop_of_length_le (by omega)] at hG
    dsimp only at hG
    subst hG
    have hz1 : (bs.length : Int) ≤ (at' : Int) + 1 := by omega
    clear hc hA IH
    go_enter Tryd.func43, Tryd.ntmps43
    go_wp2_with fail
    exact ref_bad (three_first _ _ _ _) (below3 _ _ _ _) _ _ _ rfl rfl rfl
  rw [List.drop_eq_getElem_cons h1] at hG
  dsimp only at hG
  have hz1 : (at' : Int) + 1 < (bs.length : Int) := by omega
  obtain ⟨n, hn⟩ : ∃ n, (bs[at' + 1]).toNat = n := ⟨_, rfl⟩
  rw [hn] at hG
  have c1 : ∀ X Y Z, (((w.alloc X).alloc Y).alloc Z).cell? ⟨b, o + (at' + 1), none⟩ = some (.int .u8 n) := fun X Y Z => by rw [hc _ (below3 w X Y Z) (at' + 1) h1, hn]
  have hn256 : n < 256 := by have := (bs[at' + 1]).toNat_lt; omega
  have HC := @Lib.hid _ @hc
  clear hc hA
  by_cases hn64 : 64 < n
  · rw [if_pos hn64] at hG
    subst hG
    have hnz : (64 : Int) < (n : Int) := by omega
    clear IH
    go_enter Tryd.func43, Tryd.ntmps43
    go_wp2_with fail
    exact ref_bad (three_first _ _ _ _) (below3 _ _ _ _) _ _ _ rfl rfl rfl
  rw [if_neg hn64] at hG
  have hnz : ¬ (64 : Int) < (n : Int) := by omega
  have HG := Lib.hid hG
  clear hG hn
  obtain ⟨i0, hi, hzz⟩ := Option.map_eq_some_iff.1 info59
  simp only [Prod.mk.injEq] at hzz
  obtain ⟨hz0, hz1', hz2⟩ := hzz
  have HI := Lib.hid hi
  have HZ0 := Lib.hid hz0
  have HZ1 := Lib.hid hz1'
  have HZ2 := Lib.hid hz2
  have HIH := @Lib.hid _ @IH
  clear hi hz0 hz1' hz2 IH
  go_enter Tryd.func43, Tryd.ntmps43
  go_wp2_with fail
  have g0 := GS.start w #[.int .i64 8, .int .u64 0, .slice none 0 0, .slice none 0 0, .slice none 0 0]
  simp only [vzero] at g0
  generalize (((w.alloc _).alloc _).alloc _) = W0 at g0 ⊢
  clear c0 c1
  go_loopg [1, 13] n (fun g t1 t13 wr => ∃ fs css v3, ∃ m : Nat, t1 = .int .i64 m ∧ t13 = .int .i64 (fs.length : Int) ∧ m ≤ bs.length ∧ fs.length ≤ n ∧ n ≤ fs.length + g ∧ GS w #[.int .i64 8, .int .u64 0, .slice none 0 0, .slice none 0 0, v3] wr ∧ Flds wr (w.heap.size + 1 + 1) w.heap.size v3 fs css ∧ joinF fs (fields p (n - fs.length) (metOf fs) (bs.drop m)) = G)
  case atStart => exact ⟨[], [], .slice none 0 0, at' + 1 + 1, by go_num, rfl, by omega, Nat.zero_le _, by simp, g0, Flds.start (World.ownsRow_nil _ _ _ _) g0.lt (by simp [Value.ownBlock]), HG.out⟩
  case round =>
    clear g0 HG
    obtain ⟨fs, css, v3, m, rfl, rfl, hm, hvn, hgn, gs, hI, hj⟩ := hrel
    obtain ⟨wo, rfl⟩ : ∃ wo : World, wo = wr := ⟨_, rfl⟩
    have HII := Lib.hid hI
    have HGS := Lib.hid gs
    have hsz := gs.lt
    have z0 := gs.cell 0
    by_cases hlt : fs.length < n
    case neg =>
      obtain rfl : fs.length = n := by omega
      rw [Nat.sub_self, fields_zero] at hj
      dsimp only [joinF] at hj
      rw [List.append_nil] at hj
      subst hj
      obtain ⟨A3, c3, rfl⟩ := ownsRow_slice hI.own
      have HREP := Lib.hid (hI.done (by omega))
      have e0 := gs.c6 0; have e1 := gs.c6 1; have e2 := gs.c6 2; have e3 := gs.c6 3; have e4 := gs.c6 4
      have f0 := gs.f6 0; have f1 := gs.f6 1; have f2 := gs.f6 2; have f3 := gs.f6 3; have f4 := gs.f6 4
      have k1 := gs.cell 1; have k2 := gs.cell 2; have k3 := gs.cell 3; have k4 := gs.cell 4
      clear HII gs hI
      go_wp2_with fail
      exact HGS.out.good bs _ _ m HREP.out hm rfl _ rfl rfl rfl
    clear hI
    obtain ⟨go1, rfl⟩ : ∃ g, gk = g + 1 := ⟨gk - 1, by omega⟩
    obtain ⟨q, hq⟩ : ∃ q, n - fs.length = q + 1 := ⟨n - fs.length - 1, by omega⟩
    rw [hq] at hj
    have HJ := Lib.hid hj
    have HQ := Lib.hid hq
    clear hj hq
    have e0 := gs.c6 0; have e1 := gs.c6 1; have e2 := gs.c6 2; have e3 := gs.c6 3; have e4 := gs.c6 4
    have f0 := gs.f6 0; have f1 := gs.f6 1; have f2 := gs.f6 2; have f3 := gs.f6 3; have f4 := gs.f6 4
    have k0 := gs.c9 0; have k1 := gs.c9 1; have k2 := gs.c9 2; have k3 := gs.c9 3; have k4 := gs.c9 4
    clear gs
    by_cases hm1 : m < bs.length
    case neg =>
      have hG := HJ.out
      rw [List.drop_of_length_le (by omega), joinF_no1 fs (fieldName_nil _)] at hG
      subst hG
      have hmz : (bs.length : Int) ≤ (m : Int) := by omega
      go_wp2_with fail
      exact HGS.out.bad bs 4 _ rfl rfl rfl
    have hmz : ¬ (bs.length : Int) ≤ (m : Int) := by omega
    have hmz2 : (m : Int) < (bs.length : Int) := by omega
    have hdrop := List.drop_eq_getElem_cons hm1
    obtain ⟨x, hxx⟩ : ∃ x, (bs[m]).toNat = x := ⟨_, rfl⟩
    have cm : wo.cell? ⟨b, o + m, none⟩ = some (.int .u8 x) := by rw [HC.out _ HGS.out.below m hm1, hxx]
    have hx256 : x < 256 := by have := (bs[m]).toNat_lt; omega
    have hxz : (x : Int) < 256 := by omega
    have HD := Lib.hid hdrop
    have HXX := Lib.hid hxx
    clear hdrop hxx
    by_cases hsh : (bs.drop (m + 1)).length < x
    · have hG := HJ.out
      rw [HD.out, joinF_no1 fs (fieldName_short (by rw [HXX.out]; exact hsh))] at hG
      subst hG
      have hshz : (bs.length : Int) < (m : Int) + 1 + (x : Int) := by simp only [List.length_drop] at hsh; omega
      clear hsh
      go_wp2_with fail
      exact HGS.out.bad bs 4 _ rfl rfl rfl
    have HSH := Lib.hid hsh
    have hshz : ¬ (bs.length : Int) < (m : Int) + 1 + (x : Int) := by simp only [List.length_drop] at hsh; omega
    obtain ⟨A2, hsl, hr2⟩ := run_sub (c := c) (hA0.below HGS.out.below) (m + 1) x ((m : Int) + 1) ((m : Int) + 1 + (x : Int)) (by omega) (by omega) (by simp only [List.length_drop] at hsh; omega) hcl
    have hlen2 : ((bs.drop (m + 1)).take x).length = x := by simp only [List.length_take]; omega
    have hconv := conv_str (n := x) (c := c - (m + 1)) hlen2.symm hr2
    obtain ⟨s, hs⟩ : ∃ s : ByteArray, (⟨((bs.drop (m + 1)).take x).toArray⟩ : ByteArray) = s := ⟨_, rfl⟩
    rw [hs] at hconv
    have hss : s.size = x := by rw [← hs]; simpa [ByteArray.size] using hlen2
    have HS := Lib.hid hs
    have HSS := Lib.hid hss
    clear hs hss hr2 hlen2 hsh
    go_wp2_with fail
    refine (name_any s wo (by have := HSS.out; omega)).mono ?_
    rintro e w1 ⟨rfl, hb1⟩
    have HB1 := Lib.hid hb1
    have g1 := HGS.out.call hb1
    have HGS1 := Lib.hid g1
    have cm1 : w1.cell? ⟨b, o + m, none⟩ = some (.int .u8 x) := below_cell hb1 cm
    have I1 := HII.out.below hb1
    have HII1 := Lib.hid I1
    clear e0 e1 e2 e3 e4 f0 f1 f2 f3 f4 k0 k1 k2 k3 k4 cm z0 hsl hconv
    have z0 := g1.cell 0
    have e0 := g1.c6 0; have e1 := g1.c6 1; have e2 := g1.c6 2; have e3 := g1.c6 3; have e4 := g1.c6 4
    have f0 := g1.f6 0; have f1 := g1.f6 1; have f2 := g1.f6 2; have f3 := g1.f6 3; have f4 := g1.f6 4
    have k0 := g1.c9 0; have k1 := g1.c9 1; have k2 := g1.c9 2; have k3 := g1.c9 3; have k4 := g1.c9 4
    clear g1 hb1
    by_cases hnm : nameR s = true
    case neg =>
      have hG := HJ.out
      rw [HD.out, joinF_no1 fs (fieldName_no (by rw [HXX.out]; exact HSH.out) (by rw [HXX.out, HS.out]; exact fun h => hnm h.1))] at hG
      subst hG
      have hnm2 : nameR s = false := by simpa using hnm
      clear hnm I1
      go_wp2_with fail
      exact HGS1.out.bad bs 4 _ rfl rfl rfl
    obtain ⟨AF0, cF0, rfl, hrow⟩ := I1.row
    have HROW := @Lib.hid _ @hrow
    have z4 := HGS1.out.cell 4
    have HNM := Lib.hid hnm
    clear I1 hrow
    rw [hnm]
    clear hnm
    go_wp2_with fail
    go_loopg [15] fs.length (fun g t15 wq => ∃ k : Nat, t15 = .int .i64 k ∧ k ≤ fs.length ∧ fs.length ≤ k + g ∧ (∀ j (h : j < fs.length), j < k → (fs[j]).1 ≠ s) ∧ w1 = wq)
    case atStart => exact ⟨0, rfl, Nat.zero_le _, by omega, fun j _ h => absurd h (by omega), rfl⟩
    case round =>
      obtain ⟨k, rfl, hk, hkg, hdiff, rfl⟩ := hrel
      have HDIFF := @Lib.hid _ @hdiff
      clear hdiff
      by_cases hkl : k < fs.length
      · obtain ⟨bb, oo, rfl, hcell⟩ := HROW.out k hkl
        by_cases heq : (fs[k]).1 = s
        · have hG := HJ.out
          rw [HD.out, joinF_no1 fs (fieldName_no (by rw [HXX.out]; exact HSH.out) (by rw [HXX.out, HS.out]; exact fun h => h.2 (mem_metOf.2 ⟨k, hkl, heq⟩)))] at hG
          subst hG
          rw [heq] at hcell
          clear heq
          go_wp2_with fail
          exact HGS1.out.bad bs 4 _ rfl rfl rfl
        · have hne := str_beq heq
          have HEQ := Lib.hid heq
          clear heq
          go_wp2_with fail
          go_roundg (gk - 1)
          case measure => omega
          case rel =>
            refine ⟨k + 1, by go_num, by omega, by omega, fun j hj hjk => ?_, rfl⟩
            by_cases e : j = k
            · subst e; exact HEQ.out
            · exact HDIFF.out j hj (by omega)
      · have hnot : s ∉ metOf fs := fun h => by
          obtain ⟨j, hj, e⟩ := mem_metOf.1 h
          exact HDIFF.out j hj (by omega) e
        have hfn : fieldName (metOf fs) (bs.drop m) = .ok (s, bs.drop (m + 1 + x)) := by
          rw [HD.out, fieldName_ok (by rw [HXX.out]; exact HSH.out) (by rw [HXX.out, HS.out]; exact HNM.out) (by rw [HXX.out, HS.out]; exact hnot), HXX.out, HS.out, List.drop_drop]
        have HFN := Lib.hid hfn
        have hm2 : m + 1 + x ≤ bs.length := by omega
        have hIH := HIH.out w1 (m + 1 + x) (hA0.below HGS1.out.below) hm2
        have ecast : ((m + 1 + x : Nat) : Int) = (m : Int) + 1 + (x : Int) := by omega
        rw [ecast] at hIH
        have HIH1 := Lib.hid hIH
        clear hnot hfn hIH ecast HDIFF
        go_wp2_with fail
        refine HIH1.out.mono ?_
        rcases hpp : p (bs.drop (m + 1 + x)) with e | ⟨v, rest⟩
        · rintro e' w' ⟨rfl, hb⟩
          have hne : e ≠ 0 := hp _ _ hpp
          have hG := HJ.out
          rw [joinF_no2 fs HFN.out hpp] at hG
          subst hG
          have hne1 : (e == 0) = false := by simpa using hne
          have hne2 : (e != 0) = true := by simpa using hne
          have g1 := (HGS1.out.call hb).call (below1 w' (.cells vzero 27))
          simp only [vzero] at g1
          clear e0 e1 e2 e3 e4 f0 f1 f2 f3 f4 k0 k1 k2 k3 k4
          have e0 := g1.c6 0; have e1 := g1.c6 1; have e2 := g1.c6 2; have e3 := g1.c6 3; have e4 := g1.c6 4
          have f0 := g1.f6 0; have f1 := g1.f6 1; have f2 := g1.f6 2; have f3 := g1.f6 3; have f4 := g1.f6 4
          have k0 := g1.c9 0; have k1 := g1.c9 1; have k2 := g1.c9 2; have k3 := g1.c9 3; have k4 := g1.c9 4
          have HG1 := Lib.hid g1
          clear hne hpp g1 z0 z4 cm1
          go_wp2_with fail
          exact HG1.out.bad bs e _ rfl rfl rfl
        · rintro e' w' ⟨cs, m', rfl, hr, hb, hm', rfl⟩
          have h1c := hr.one
          obtain ⟨vk, vn, vb, vl, vf⟩ := v
          have hrr := hr
          obtain ⟨AB, AL, AF, cb, cl, cf, L, F, rfl, -⟩ := hr.inv
          clear hr
          have hr := hrr
          clear hrr
          have hG := HJ.out
          rw [joinF_ok fs HFN.out hpp] at hG
          have HJ2 := Lib.hid hG
          have hlow := HGS1.out.lt
          have b2 := below2 w' (.cells #[Value.int .i64 vk, .int .u64 vn, .slice AB vb.length cb, .slice AL vl.length cl, .slice AF vf.length cf] 27) (.cells #[.string s, Value.int .i64 vk, .int .u64 vn, .slice AB vb.length cb, .slice AL vl.length cl, .slice AF vf.length cf] 59)
          have g1 := (HGS1.out.call hb).call (below1 w' (.cells #[Value.int .i64 vk, .int .u64 vn, .slice AB vb.length cb, .slice AL vl.length cl, .slice AF vf.length cf] 27))
          have g2 := (HGS1.out.call hb).call b2
          have hI5 := (HII1.out.below hb).below b2
          have hrep2 := ((hr.kept (Keeps.of_below b2 _ (fun k hk _ => hk))).mono (S' := fun k => (w.heap.size + 1 + 1 < k ∧ k ≠ w.heap.size) ∧ some k ≠ (Value.slice AF0 fs.length cF0).ownBlock) (fun k hk hS => ⟨⟨Nat.lt_of_lt_of_le hlow hS, fun e => by have := Nat.lt_of_lt_of_le hlow hS; omega⟩, fun e => absurd ((World.ownsRow.lt HII1.out.own k e.symm).2) (Nat.not_lt_of_le hS)⟩))
          have HI5 := Lib.hid hI5
          have HREP := Lib.hid hrep2
          have HBLK := Lib.hid (show ((w'.alloc (.cells #[Value.int .i64 vk, .int .u64 vn, .slice AB vb.length cb, .slice AL vl.length cl, .slice AF vf.length cf] 27)).alloc (.cells #[.string s, Value.int .i64 vk, .int .u64 vn, .slice AB vb.length cb, .slice AL vl.length cl, .slice AF vf.length cf] 59)).heap[w'.heap.size + 1]? = some (.cells [.string s, Value.int .i64 vk, .int .u64 vn, .slice AB vb.length cb, .slice AL vl.length cl, .slice AF vf.length cf].toArray 59 (0, 0)) by
            have := heap_alloc_new (w'.alloc (.cells #[Value.int .i64 vk, .int .u64 vn, .slice AB vb.length cb, .slice AL vl.length cl, .slice AF vf.length cf] 27)) (.cells #[.string s, Value.int .i64 vk, .int .u64 vn, .slice AB vb.length cb, .slice AL vl.length cl, .slice AF vf.length cf] 59)
            simpa using this)
          have H1C := Lib.hid (show ∀ u ∈ [Value.string s, Value.int .i64 vk, .int .u64 vn, .slice AB vb.length cb, .slice AL vl.length cl, .slice AF vf.length cf], u.oneCell' = true by
            intro u hu
            rcases List.mem_cons.1 hu with rfl | hu
            · rfl
            · exact h1c u hu)
          have HB5 := Lib.hid (show w.heap.size + 1 + 1 + 1 ≤ ((w'.alloc (.cells #[Value.int .i64 vk, .int .u64 vn, .slice AB vb.length cb, .slice AL vl.length cl, .slice AF vf.length cf] 27)).alloc (.cells #[.string s, Value.int .i64 vk, .int .u64 vn, .slice AB vb.length cb, .slice AL vl.length cl, .slice AF vf.length cf] 59)).heap.size from g2.lt)
          have HG2 := Lib.hid g2
          clear z0 z4 e0 e1 e2 e3 e4 f0 f1 f2 f3 f4 k0 k1 k2 k3 k4 cm1
          have y0 := g1.cell 0
          have y4 := g1.cell 4
          have u4 := g2.cell 4
          have hvs : fs.length ≤ 1000000000 := by omega
          clear hG hI5 hrep2 hr h1c hpp g1 g2 b2 hlow
          go_wp2_with (at_builtin; go_must (refine app_one rfl (.tmp 242) (.tmp 246) 25 59 rfl i0 (.agg (#[.string ⟨#[]⟩] ++ vzero)) 6 104 Tryd.underlying25 HI.out HZ0.out HZ1.out HZ2.out rfl (by decide) (w.heap.size + 1 + 1 + 1) fs.length (.slice AF0 fs.length cF0) css.flatten rfl HI5.out.own (w'.heap.size + 1) [.string s, Value.int .i64 vk, .int .u64 vn, .slice AB vb.length cb, .slice AL vl.length cl, .slice AF vf.length cf] rfl rfl HBLK.out H1C.out hvs (by decide) HB5.out ?_; intro v6 w6 ho6 hg6 hat6; have g6 := HG2.out.app hg6 (fun k hk => (World.ownsRow.lt HI5.out.own k hk).1); have z6 := g6.cell 4; have f6 := g6.free 4; obtain ⟨A6, c6, rfl⟩ := ownsRow_slice ho6))
          have g7 := g6.set 4 (.slice A6 (fs.length + 1) c6)
          have HI7 := Lib.hid ((HI5.out.push (s := s) (by have := HSS.out; omega) HREP.out (by have := HGS.out.lt; have := HB5.out; omega) ho6 hg6 hat6).kept (grown_setCell w6 ⟨w.heap.size + 1 + 1, 4, none⟩ (.slice A6 (fs.length + 1) c6)) (fun k e => by cases e; exact .inl (Nat.le_refl _)))
          clear ho6 hg6 hat6 g6
          go_roundg go1
          case measure => omega
          case rel =>
            refine ⟨fs ++ [(s, .mk vk vn vb vl vf)], css ++ [[.string s, Value.int .i64 vk, .int .u64 vn, .slice AB vb.length cb, .slice AL vl.length cl, .slice AF vf.length cf]], .slice A6 (fs.length + 1) c6, m', rfl, by simp, hm', by simp; omega, by simp; omega, g7, HI7.out, ?_⟩
            have e : n - (fs ++ [(s, V.mk vk vn vb vl vf)]).length = q := by have := HQ.out; simp; omega
            rw [e, metOf_snoc]
            exact HJ2.out
end Go.Proofs.YtljdfainnmpjnaaDoor

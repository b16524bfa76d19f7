/- The reference's reader of values: texts and bytes. -/
import Derived.Test.YtljdfainnmpjnaaDoorRefB
set_option linter.unusedVariables false
namespace Go.Proofs.YtljdfainnmpjnaaDoor
open Go.RowKit

set_option maxRecDepth 100000 in
set_option maxHeartbeats 4000000 in
theorem ref_5 (k : Int) (hk : k = 5 ∨ k = 6) (above : Int) (at' : Nat) (bs : List UInt8) (A : Option Addr) (c : Nat) (w : World) (hA : BRow0 w A bs) (hl : bs.length ≤ 4096) (hcl : bs.length ≤ c) (h : at' < bs.length) (hx : (bs[at']).toNat = k) :
    Calls Tryd.prog 43 #[.slice A bs.length c, .int .i64 at', .int .i64 above] w (RTells w bs (
      if (bs.drop (at' + 1)).length < 2 then .error 4 else
      if ((bs.drop (at' + 1)).drop 2).length < (leNum ((bs.drop (at' + 1)).take 2)).toNat then .error 4 else
      if k = 6 ∨ utfR (((bs.drop (at' + 1)).drop 2).take (leNum ((bs.drop (at' + 1)).take 2)).toNat) = true then .ok (.mk k 0 (((bs.drop (at' + 1)).drop 2).take (leNum ((bs.drop (at' + 1)).take 2)).toNat) [] [], ((bs.drop (at' + 1)).drop 2).drop (leNum ((bs.drop (at' + 1)).take 2)).toNat) else .error 4)) := by
  have hA0 := hA
  obtain ⟨b, o, rfl, hc⟩ := byte_at hA h
  have hz : (at' : Int) < (bs.length : Int) := by omega
  have c0 : ∀ X Y, ((w.alloc X).alloc Y).cell? ⟨b, o + at', none⟩ = some (.int .u8 k) := fun X Y => by rw [hc _ (below2 w X Y) at' h, hx]
  clear hc hA
  by_cases h2 : (bs.drop (at' + 1)).length < 2
  · rw [if_pos h2]
    have hz2 : (bs.length : Int) < (at' : Int) + 1 + 2 := by simp only [List.length_drop] at h2; omega
    rcases hk with rfl | rfl
    all_goals
      go_enter Tryd.func43, Tryd.ntmps43
      go_wp2_with fail
      exact ref_bad (three_first _ _ _ _) (below3 _ _ _ _) _ _ _ rfl rfl rfl
  rw [if_neg h2]
  simp only [List.length_drop] at h2
  have hz2 : ¬ (bs.length : Int) < (at' : Int) + 1 + 2 := by omega
  have cw := fun X Y Z => refword_z ((at' : Int) + 1) 2 (at' + 1) 2 (by omega) rfl bs _ c w _ hA0 (below3 w X Y Z) (by omega) (by omega) (by omega)
  have hN0 := leNum_nonneg ((bs.drop (at' + 1)).take 2)
  have hN1 := leNum_bound ((bs.drop (at' + 1)).take 2) 2 (by simp only [List.length_take]; omega)
  generalize leNum ((bs.drop (at' + 1)).take 2) = M at cw hN0 hN1 ⊢
  obtain ⟨N, rfl⟩ := Int.eq_ofNat_of_zero_le hN0
  rw [Int.toNat_natCast, List.drop_drop, show at' + 1 + 2 = at' + 3 by omega]
  have hN2 : N < 65536 := by omega
  have CW := @Lib.hid _ @cw
  clear cw hN0 hN1
  by_cases h3 : (bs.drop (at' + 3)).length < N
  · rw [if_pos h3]
    have hz3 : (bs.length : Int) < (at' : Int) + 1 + 2 + (N : Int) := by simp only [List.length_drop] at h3; omega
    rcases hk with rfl | rfl
    all_goals
      go_enter Tryd.func43, Tryd.ntmps43
      go_wp2_with fail
      refine (CW.out _ _ _).mono ?_
      rintro e w1 ⟨rfl, rfl⟩
      go_wp2_with fail
      exact ref_bad (three_first _ _ _ _) (below3 _ _ _ _) _ _ _ rfl rfl rfl
  rw [if_neg h3]
  simp only [List.length_drop] at h3
  have hz3 : ¬ (bs.length : Int) < (at' : Int) + 1 + 2 + (N : Int) := by omega
  obtain ⟨A2, hsl, hr2⟩ := run_sub (c := c) hA0 (at' + 3) N ((at' : Int) + 1 + 2) ((at' : Int) + 1 + 2 + (N : Int)) (by omega) (by omega) (by omega) hcl
  have hlen2 : ((bs.drop (at' + 3)).take N).length = N := by simp only [List.length_take, List.length_drop]; omega
  have hrest : (bs.drop (at' + 3)).drop N = bs.drop (at' + 3 + N) := by rw [List.drop_drop]
  rw [hrest]
  generalize hL : (bs.drop (at' + 3)).take N = L at hr2 hlen2 ⊢
  clear hL hrest
  have HLEN := Lib.hid hlen2
  have HR2 := Lib.hid hr2
  clear hlen2 hr2
  obtain ⟨G, hG⟩ : ∃ G : Got, (if k = 6 ∨ utfR L = true then .ok (.mk k 0 L [] [], bs.drop (at' + 3 + N)) else .error 4) = G := ⟨_, rfl⟩
  rw [hG]
  have HG := Lib.hid hG
  clear hG
  have hN64 : IntKind.i64.wrap (N : Int) = (N : Int) := by simp only [IntKind.wrap_i64]; omega
  rcases hk with rfl | rfl
  · go_enter Tryd.func43, Tryd.ntmps43
    go_wp2_with fail
    refine (CW.out _ _ _).mono ?_
    rintro e w1 ⟨rfl, rfl⟩
    have g0 := GS.start w #[.int .i64 5, .int .u64 0, .slice none 0 0, .slice none 0 0, .slice none 0 0]
    simp only [vzero] at g0
    go_upto_region 25 with fail
    generalize (((w.alloc _).alloc _).alloc _) = W0 at g0 ⊢
    have gd := g0.call (below_drew W0)
    have z2 : W0.drew.cell? ⟨w.heap.size + 1 + 1, 2, none⟩ = some (.slice none 0 0) := gd.cell 2
    have hbd := gd.below
    have hlt := gd.lt
    have hw1 : IntKind.i64.wrap ((at' : Int) + 1 + 2) = (at' : Int) + 1 + 2 := by simp only [IntKind.wrap_i64]; omega
    have hw2 : IntKind.i64.wrap ((at' : Int) + 1 + 2 + (N : Int)) = (at' : Int) + 1 + 2 + (N : Int) := by simp only [IntKind.wrap_i64]; omega
    have HRD := Lib.hid (HR2.out.belowS hbd)
    go_region_law (refine step_app_bytes rfl (.tmp 110) (.tmp 118) rfl (w.heap.size + 1 + 1 + 1) (.slice none 0 0) [] rfl (Own.nil _ _) A2 N (c - (at' + 3)) L rfl HLEN.out.symm HRD.out (by have := HLEN.out; simp only [List.length_nil]; omega) hlt ?_; intro v1 w1 ho1 hg1 hat1; have g1 := gd.app hg1 (fun k e => by cases e); have z2 := g1.cell 2; have f2 := g1.free 2; obtain ⟨A3, c3, rfl, hc31, hc32, hr3⟩ := ho1.row (fun k => w.heap.size + 1 + 1 < k) (fun k hk => (ho1.lt k hk).1))
    clear hw1 hw2 hsl
    simp only [List.nil_append] at ho1 hc31 hr3 hat1 ⊢
    have g2 := g1.set 2 (.slice A3 L.length c3)
    have g2 : GS w #[.int .i64 5, .int .u64 0, .slice A3 L.length c3, .slice none 0 0, .slice none 0 0] _ := g2
    have hr4 := hr3.kept (Keeps.set (S := fun k => w.heap.size + 1 + 1 < k) (b := w.heap.size + 1 + 1) (Nat.lt_irrefl _) 2 (.slice A3 L.length c3))
    generalize w1.setCell ⟨w.heap.size + 1 + 1, 2, none⟩ _ = W2 at g2 hr4 ⊢
    have hLen : Len L.length c3 := ⟨hc31, by have := HLEN.out; omega, hc32⟩
    have HREP := Lib.hid (rep_bytes (k := 5) (n := 0) (by omega) (by omega) hLen hr4)
    have hU := utf_any L A3 c3 W2 hLen hr4.old
    have HU := @Lib.hid _ @hU
    have HG2 := Lib.hid g2
    have d0 := g2.cell 0; have d1 := g2.cell 1; have d2 := g2.cell 2; have d3 := g2.cell 3; have d4 := g2.cell 4
    have e0 := g2.c6 0; have e1 := g2.c6 1; have e2 := g2.c6 2; have e3 := g2.c6 3; have e4 := g2.c6 4
    have f0 := g2.f6 0; have f1 := g2.f6 1; have f2 := g2.f6 2; have f3 := g2.f6 3; have f4 := g2.f6 4
    have k0 := g2.c9 0; have k1 := g2.c9 1; have k2 := g2.c9 2; have k3 := g2.c9 3; have k4 := g2.c9 4
    clear hU g1 z2 ho1 hg1 hat1 hr3 hr4 g2 hLen hc31 hc32 gd hlt hbd g0 HR2 HRD
    by_cases hu : utfR L = true
    · rw [hu] at HU
      have hG := HG.out
      rw [if_pos (.inr hu)] at hG
      subst hG
      go_wp2_with fail
      refine HU.out.mono ?_
      rintro e w3 ⟨rfl, rfl⟩
      go_wp2_with fail
      exact HG2.out.good bs _ _ (at' + 3 + N) HREP.out (by omega) rfl _ rfl (by show Value.int .i64 _ = _; congr 1) rfl
    · have hu' : utfR L = false := by simpa using hu
      rw [hu'] at HU
      have hG := HG.out
      rw [if_neg (fun h => h.elim (fun h => by omega) hu)] at hG
      subst hG
      go_wp2_with fail
      refine HU.out.mono ?_
      rintro e w3 ⟨rfl, rfl⟩
      go_wp2_with fail
      exact HG2.out.bad bs 4 _ rfl rfl rfl
  · go_enter Tryd.func43, Tryd.ntmps43
    go_wp2_with fail
    refine (CW.out _ _ _).mono ?_
    rintro e w1 ⟨rfl, rfl⟩
    have g0 := GS.start w #[.int .i64 6, .int .u64 0, .slice none 0 0, .slice none 0 0, .slice none 0 0]
    simp only [vzero] at g0
    go_upto_region 25 with fail
    generalize (((w.alloc _).alloc _).alloc _) = W0 at g0 ⊢
    have gd := g0.call (below_drew W0)
    have z2 : W0.drew.cell? ⟨w.heap.size + 1 + 1, 2, none⟩ = some (.slice none 0 0) := gd.cell 2
    have hbd := gd.below
    have hlt := gd.lt
    have hw1 : IntKind.i64.wrap ((at' : Int) + 1 + 2) = (at' : Int) + 1 + 2 := by simp only [IntKind.wrap_i64]; omega
    have hw2 : IntKind.i64.wrap ((at' : Int) + 1 + 2 + (N : Int)) = (at' : Int) + 1 + 2 + (N : Int) := by simp only [IntKind.wrap_i64]; omega
    have HRD := Lib.hid (HR2.out.belowS hbd)
    go_region_law (refine step_app_bytes rfl (.tmp 110) (.tmp 118) rfl (w.heap.size + 1 + 1 + 1) (.slice none 0 0) [] rfl (Own.nil _ _) A2 N (c - (at' + 3)) L rfl HLEN.out.symm HRD.out (by have := HLEN.out; simp only [List.length_nil]; omega) hlt ?_; intro v1 w1 ho1 hg1 hat1; have g1 := gd.app hg1 (fun k e => by cases e); have z2 := g1.cell 2; have f2 := g1.free 2; obtain ⟨A3, c3, rfl, hc31, hc32, hr3⟩ := ho1.row (fun k => w.heap.size + 1 + 1 < k) (fun k hk => (ho1.lt k hk).1))
    clear hw1 hw2 hsl
    simp only [List.nil_append] at ho1 hc31 hr3 hat1 ⊢
    have g2 := g1.set 2 (.slice A3 L.length c3)
    have g2 : GS w #[.int .i64 6, .int .u64 0, .slice A3 L.length c3, .slice none 0 0, .slice none 0 0] _ := g2
    have hr4 := hr3.kept (Keeps.set (S := fun k => w.heap.size + 1 + 1 < k) (b := w.heap.size + 1 + 1) (Nat.lt_irrefl _) 2 (.slice A3 L.length c3))
    generalize w1.setCell ⟨w.heap.size + 1 + 1, 2, none⟩ _ = W2 at g2 hr4 ⊢
    have hLen : Len L.length c3 := ⟨hc31, by have := HLEN.out; omega, hc32⟩
    have HREP := Lib.hid (rep_bytes (k := 6) (n := 0) (by omega) (by omega) hLen hr4)
    have hU := utf_any L A3 c3 W2 hLen hr4.old
    have HU := @Lib.hid _ @hU
    have HG2 := Lib.hid g2
    have d0 := g2.cell 0; have d1 := g2.cell 1; have d2 := g2.cell 2; have d3 := g2.cell 3; have d4 := g2.cell 4
    have e0 := g2.c6 0; have e1 := g2.c6 1; have e2 := g2.c6 2; have e3 := g2.c6 3; have e4 := g2.c6 4
    have f0 := g2.f6 0; have f1 := g2.f6 1; have f2 := g2.f6 2; have f3 := g2.f6 3; have f4 := g2.f6 4
    have k0 := g2.c9 0; have k1 := g2.c9 1; have k2 := g2.c9 2; have k3 := g2.c9 3; have k4 := g2.c9 4
    clear hU g1 z2 ho1 hg1 hat1 hr3 hr4 g2 hLen hc31 hc32 gd hlt hbd g0 HR2 HRD
    have hG := HG.out
    rw [if_pos (.inl (by first | trivial | omega))] at hG
    subst hG
    go_wp2_with fail
    exact HG2.out.good bs _ _ (at' + 3 + N) HREP.out (by omega) rfl _ rfl (by show Value.int .i64 _ = _; congr 1) rfl
end Go.Proofs.YtljdfainnmpjnaaDoor

/- The reference's Good and Put. -/
import Derived.Test.YtljdfainnmpjnaaDoorBytes
import Derived.Test.YtljdfainnmpjnaaDoorDepth
import Derived.Test.YtljdfainnmpjnaaDoorShape
set_option linter.unusedVariables false
namespace Go.Proofs.YtljdfainnmpjnaaDoor
open Go.RowKit

/-- What is wrong with a value: the document's number, 0 for nothing. -/
noncomputable def goodR (v : V) : Int :=
  if formedB v = false then 4 else if manyR v = true then 19 else if 16 < depthR v then 3 else if 4096 < (encR v).length then 2 else 0

set_option maxHeartbeats 2000000 in
theorem refgood_any (v : V) (cs : List Value) (w : World) (h : Rep0 w v cs) (hh : v.high ≤ 1000000) (hbig : (encR v).length ≤ 70368744177664) :
    Calls Tryd.prog 29 #[.agg cs.toArray] w fun e w' => e = .returned (.int .i64 (goodR v)) ∧ Below w.heap.size w w' := by
  obtain ⟨k, n, b, l, f⟩ := v
  have hw := h
  obtain ⟨AB, AL, AF, cb, cl, cf, L, F, rfl, -⟩ := h.inv
  obtain ⟨R, hR⟩ : ∃ R, goodR (.mk k n b l f) = R := ⟨_, rfl⟩
  rw [hR]
  unfold goodR at hR
  have HR := Lib.hid hR
  clear hR h
  obtain ⟨v, hv⟩ : ∃ v, V.mk k n b l f = v := ⟨_, rfl⟩
  rw [hv] at HR hw hh hbig
  clear hv
  obtain ⟨X, hX⟩ : ∃ X, Obj.cells #[Value.int .i64 k, .int .u64 n, .slice AB b.length cb, .slice AL l.length cl, .slice AF f.length cf] 27 = X := ⟨_, rfl⟩
  have HX := Lib.hid hX
  clear hX
  have h1 := Rep0.below ((Below.refl _ _).alloc (Nat.le_refl _) X) hw
  have hb0 : Below (w.heap.size + 1) (w.alloc X) (w.alloc X) := Below.refl _ _
  have H1 := Lib.hid h1
  have HB0 := Lib.hid hb0
  clear h1 hw hb0
  have carry : ∀ {W W' : World}, Below W.heap.size W W' → ∀ {j : Nat} {u : Value}, W.cell? ⟨w.heap.size, j, none⟩ = some u → W'.cell? ⟨w.heap.size, j, none⟩ = some u := fun hb _ _ h => below_cell hb h
  have CR := @Lib.hid _ @carry
  clear carry
  go_enter Tryd.func29, Tryd.ntmps29
  go_wp2_with fail
  rw [HX.out]
  refine (shape_any v _ _ H1.out).mono ?_
  rintro e w1 ⟨rfl, hb1⟩
  have HB1 := Lib.hid (below_alloc_trans HB0.out hb1)
  have H2 := Lib.hid (Rep0.below hb1 H1.out)
  clear hb1 HB0 H1
  cases h4 : formedB v with
  | false =>
    have hr := HR.out
    rw [if_pos h4] at hr
    subst hr
    clear h4
    go_wp2_with fail
    go_ret
    exact ⟨rfl, below_of_alloc HB1.out⟩
  | true =>
    have hr := HR.out
    rw [if_neg (by rw [h4]; simp)] at hr
    have HR2 := Lib.hid hr
    clear hr h4 HR
    have hblk := blk_alloc HB1.out
    rw [← HX.out] at hblk
    have c0 := cell_blk hblk 0; have c1 := cell_blk hblk 1; have c2 := cell_blk hblk 2; have c3 := cell_blk hblk 3; have c4 := cell_blk hblk 4
    clear hblk
    go_wp2_with fail
    refine (many_any v _ _ H2.out).mono ?_
    rintro e w2 ⟨rfl, hb2⟩
    have HB2 := Lib.hid (below_alloc_trans HB1.out hb2)
    have H3 := Lib.hid (Rep0.below hb2 H2.out)
    clear hb2 HB1 H2 c0 c1 c2 c3 c4
    cases h19 : manyR v with
    | true =>
      have hr := HR2.out
      rw [if_pos h19] at hr
      subst hr
      clear h19
      go_wp2_with fail
      go_ret
      exact ⟨rfl, below_of_alloc HB2.out⟩
    | false =>
      have hr := HR2.out
      rw [if_neg (by rw [h19]; simp)] at hr
      have HR3 := Lib.hid hr
      clear hr h19 HR2
      have hblk := blk_alloc HB2.out
      rw [← HX.out] at hblk
      have c0 := cell_blk hblk 0; have c1 := cell_blk hblk 1; have c2 := cell_blk hblk 2; have c3 := cell_blk hblk 3; have c4 := cell_blk hblk 4
      clear hblk
      go_wp2_with fail
      refine (depth_any v _ _ H3.out hh).mono ?_
      rintro e w3 ⟨rfl, hb3⟩
      have HB3 := Lib.hid (below_alloc_trans HB2.out hb3)
      have H4 := Lib.hid (Rep0.below hb3 H3.out)
      clear hb3 HB2 H3 c0 c1 c2 c3 c4
      by_cases h16 : 16 < depthR v
      · have hr := HR3.out
        rw [if_pos h16] at hr
        subst hr
        go_wp2_with fail
        go_ret
        exact ⟨rfl, below_of_alloc HB3.out⟩
      · have hr := HR3.out
        rw [if_neg h16] at hr
        have HR4 := Lib.hid hr
        have h16' : depthR v ≤ 16 := by omega
        clear hr HR3 h16
        have hblk := blk_alloc HB3.out
        rw [← HX.out] at hblk
        have c0 := cell_blk hblk 0; have c1 := cell_blk hblk 1; have c2 := cell_blk hblk 2; have c3 := cell_blk hblk 3; have c4 := cell_blk hblk 4
        clear hblk
        go_wp2_with fail
        refine (bytes_any v _ _ H4.out hbig).mono ?_
        rintro e w4 ⟨v4, rfl, ho4, hb4⟩
        obtain ⟨A4, cap4, rfl, -⟩ := ho4.old
        have HB4 := Lib.hid (below_alloc_trans HB3.out hb4)
        clear hb4 HB3 H4 c0 c1 c2 c3 c4 ho4
        by_cases h2 : 4096 < (encR v).length
        · have hr := HR4.out
          rw [if_pos h2] at hr
          subst hr
          go_wp2_with fail
          go_ret
          exact ⟨rfl, below_of_alloc HB4.out⟩
        · have hr := HR4.out
          rw [if_neg h2] at hr
          subst hr
          have h2' : (encR v).length ≤ 4096 := by omega
          go_wp2_with fail
          go_ret
          exact ⟨rfl, below_of_alloc HB4.out⟩

theorem refput2_any (v : V) (cs : List Value) (w : World) (h : Rep0 w v cs) (hbig : (encR v).length ≤ 70368744177664) :
    Calls Tryd.prog 23 #[.agg cs.toArray] w fun e w' => ∃ v', e = .returned v' ∧ Own w' w.heap.size v' (encR v) ∧ Below w.heap.size w w' := by
  obtain ⟨k, n, b, l, f⟩ := v
  have hw := h
  obtain ⟨AB, AL, AF, cb, cl, cf, L, F, rfl, -⟩ := h.inv
  clear h
  obtain ⟨v, hv⟩ : ∃ v, V.mk k n b l f = v := ⟨_, rfl⟩
  rw [hv] at hw hbig ⊢
  clear hv
  go_enter Tryd.func23, Tryd.ntmps23
  go_wp2_with fail
  refine (bytes_any v _ _ (Rep0.below ((Below.refl _ _).alloc (Nat.le_refl _) _) hw) hbig).mono ?_
  rintro e w1 ⟨v1, rfl, ho1, hb1⟩
  go_wp2_with fail
  go_ret
  exact ⟨v1, rfl, ho1.mono (by simp), ((Below.refl _ _).alloc (Nat.le_refl _) _).trans (hb1.mono (by simp))⟩
end Go.Proofs.YtljdfainnmpjnaaDoor

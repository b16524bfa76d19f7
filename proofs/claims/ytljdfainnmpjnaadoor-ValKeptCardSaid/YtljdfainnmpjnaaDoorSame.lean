/- The reference's equality of values, and its count of many values. -/
import Derived.Test.YtljdfainnmpjnaaDoorMem
import Derived.Test.YtljdfainnmpjnaaDoorWalked
import Derived.StillTailTactics
import Derived.Deep.QuietTactic
import Derived.BigQuiet
namespace Go.Proofs.YtljdfainnmpjnaaDoor
open Go.RowKit

mutual
def sameR : V → V → Bool
  | .mk k n b l f, .mk k' n' b' l' f' => decide (k = k') && decide (n = n') && decide (b = b') && sameL l l' && sameF f f'
def sameL : List V → List V → Bool
  | [], [] => true
  | x :: r, y :: s => sameR x y && sameL r s
  | _, _ => false
def sameF : List (ByteArray × V) → List (ByteArray × V) → Bool
  | [], [] => true
  | (p, x) :: r, (q, y) :: s => decide (p = q) && sameR x y && sameF r s
  | _, _ => false
end
def SameOk (v : V) : Prop := ∀ u, sameR v u = true ↔ v = u
theorem sameL_iff : ∀ (l : List V) (_ : ∀ x ∈ l, SameOk x) (l' : List V), sameL l l' = true ↔ l = l'
  | [], _, [] => by simp [sameL]
  | [], _, y :: s => by simp [sameL]
  | x :: r, _, [] => by simp [sameL]
  | x :: r, h, y :: s => by
    rw [sameL, Bool.and_eq_true, h x (by simp) y, sameL_iff r (fun z hz => h z (by simp [hz])) s, List.cons.injEq]
theorem sameF_iff : ∀ (l : List (ByteArray × V)) (_ : ∀ x ∈ l, SameOk x.2) (l' : List (ByteArray × V)), sameF l l' = true ↔ l = l'
  | [], _, [] => by simp [sameF]
  | [], _, y :: s => by simp [sameF]
  | (p, x) :: r, _, [] => by simp [sameF]
  | (p, x) :: r, h, (q, y) :: s => by
    have hx := h (p, x) (by simp) y
    rw [sameF, Bool.and_eq_true, Bool.and_eq_true, decide_eq_true_eq, hx, sameF_iff r (fun z hz => h z (by simp [hz])) s, List.cons.injEq, Prod.mk.injEq]
theorem sameR_iff (a b : V) : sameR a b = true ↔ a = b := by
  suffices SameOk a from this b
  induction a using V.ind0 with
  | h k n b l f hl hf =>
    intro u
    obtain ⟨k', n', b', l', f'⟩ := u
    rw [sameR]
    simp only [Bool.and_eq_true, decide_eq_true_eq, sameL_iff l hl l', sameF_iff f hf f', V.mk.injEq, and_assoc]
theorem sameR_refl (a : V) : sameR a a = true := (sameR_iff a a).2 rfl
theorem sameL_step {l l' : List V} {i : Nat} (h : i < l.length) (h' : i < l'.length) : sameL (l.drop i) (l'.drop i) = (sameR l[i] l'[i] && sameL (l.drop (i + 1)) (l'.drop (i + 1))) := by
  rw [List.drop_eq_getElem_cons h, List.drop_eq_getElem_cons h', sameL]
theorem sameF_step {l l' : List (ByteArray × V)} {i : Nat} (h : i < l.length) (h' : i < l'.length) :
    sameF (l.drop i) (l'.drop i) = (decide ((l[i]).1 = (l'[i]).1) && sameR (l[i]).2 (l'[i]).2 && sameF (l.drop (i + 1)) (l'.drop (i + 1))) := by
  rw [List.drop_eq_getElem_cons h, List.drop_eq_getElem_cons h']
  generalize l[i] = p; generalize l'[i] = q
  obtain ⟨s, v⟩ := p; obtain ⟨t, u⟩ := q
  rw [sameF]

theorem sameR_false {k n k' n' : Int} {b b' : List UInt8} {l l' : List V} {f f' : List (ByteArray × V)} (h : ¬ (k = k' ∧ n = n' ∧ b = b' ∧ l.length = l'.length ∧ f.length = f'.length)) :
    sameR (.mk k n b l f) (.mk k' n' b' l' f') = false := by
  rw [Bool.eq_false_iff]
  intro he
  rw [sameR_iff, V.mk.injEq] at he
  obtain ⟨rfl, rfl, rfl, rfl, rfl⟩ := he
  exact h ⟨rfl, rfl, rfl, rfl, rfl⟩

set_option maxRecDepth 100000 in
set_option maxHeartbeats 4000000 in
theorem same_any (a : V) : ∀ (b : V) (csa csb : List Value) (w : World), Rep0 w a csa → Rep0 w b csb →
    Calls Tryd.prog 45 #[.agg csa.toArray, .agg csb.toArray] w fun e w' => e = .returned (.bool (sameR a b)) ∧ Below w.heap.size w w' := by
  induction a using V.ind with
  | h k n b l f ihl ihf =>
  intro u csa csb w ha hb
  obtain ⟨k', n', b', l', f'⟩ := u
  obtain ⟨AB, AL, AF, cb, cl, cf, L, F, rfl, -, -, hbl, hB, hl, hL, hLs, hf, hF, hFs, hfn⟩ := ha.inv
  obtain ⟨AB', AL', AF', cb', cl', cf', L', F', rfl, -, -, hbl', hB', hl', hL', hLs', hf', hF', hFs', hfn'⟩ := hb.inv
  clear ha hb
  obtain ⟨hb1, hb2, hb3⟩ := hbl
  obtain ⟨hl1, hl2, hl3⟩ := hl
  obtain ⟨hf1, hf2, hf3⟩ := hf
  obtain ⟨hb1', hb2', hb3'⟩ := hbl'
  obtain ⟨hl1', hl2', hl3'⟩ := hl'
  obtain ⟨hf1', hf2', hf3'⟩ := hf'
  have hbW : ∀ X Y, Below w.heap.size w ((w.alloc X).alloc Y) := fun X Y => ((Below.refl _ _).alloc (Nat.le_refl _) _).alloc (by simp) _
  have HbW := Lib.hid hbW
  have cv1 := fun X Y => conv_str (c := cb) rfl (BRow0.below (hbW X Y) hB)
  have cv2 := fun X Y => conv_str (c := cb') rfl (BRow0.below (hbW X Y) hB')
  clear hbW
  by_cases hk : k = k'
  case neg =>
    rw [sameR_false (fun h => hk h.1)]
    go_enter Tryd.func45, Tryd.ntmps45
    go_wp2_with fail
    go_ret
    exact ⟨rfl, HbW.out _ _⟩
  subst hk
  by_cases hn : n = n'
  case neg =>
    rw [sameR_false (fun h => hn h.2.1)]
    go_enter Tryd.func45, Tryd.ntmps45
    go_wp2_with fail
    go_ret
    exact ⟨rfl, HbW.out _ _⟩
  subst hn
  by_cases hbb : b = b'
  case neg =>
    rw [sameR_false (fun h => hbb h.2.2.1)]
    have hs := str_bne (fun h => hbb (string_inj.1 h))
    go_enter Tryd.func45, Tryd.ntmps45
    go_wp2_with fail
    go_ret
    exact ⟨rfl, HbW.out _ _⟩
  subst hbb
  by_cases hll : l.length = l'.length
  case neg =>
    rw [sameR_false (fun h => hll h.2.2.2.1)]
    have hs : ((l.length : Int) != (l'.length : Int)) = true := by rw [bne_iff_ne]; omega
    go_enter Tryd.func45, Tryd.ntmps45
    go_wp2_with fail
    go_ret
    exact ⟨rfl, HbW.out _ _⟩
  by_cases hff : f.length = f'.length
  case neg =>
    rw [sameR_false (fun h => hff h.2.2.2.2)]
    have hs : ((f.length : Int) != (f'.length : Int)) = true := by rw [bne_iff_ne]; omega
    have hs2 : ((l.length : Int) != (l'.length : Int)) = false := by rw [bne_eq_false_iff_eq]; omega
    have HLL := Lib.hid hll
    clear hll
    go_enter Tryd.func45, Tryd.ntmps45
    go_wp2_with fail
    go_ret
    exact ⟨rfl, HbW.out _ _⟩
  have hs : ((f.length : Int) != (f'.length : Int)) = false := by rw [bne_eq_false_iff_eq]; omega
  have hs2 : ((l.length : Int) != (l'.length : Int)) = false := by rw [bne_eq_false_iff_eq]; omega
  have HLL := Lib.hid hll
  have HFF := Lib.hid hff
  clear hll hff
  obtain ⟨R, hR⟩ : ∃ R, sameR (.mk k n b l f) (.mk k n b l' f') = R := ⟨_, rfl⟩
  rw [hR]
  rw [sameR] at hR
  simp only [decide_true, Bool.true_and] at hR
  have HR := Lib.hid hR
  clear hR
  obtain ⟨X, hX⟩ : ∃ X, Obj.cells #[Value.int .i64 k, .int .u64 n, .slice AB b.length cb, .slice AL l.length cl, .slice AF f.length cf] 27 = X := ⟨_, rfl⟩
  obtain ⟨Y, hY⟩ : ∃ Y, Obj.cells #[Value.int .i64 k, .int .u64 n, .slice AB' b.length cb', .slice AL' l'.length cl', .slice AF' f'.length cf'] 27 = Y := ⟨_, rfl⟩
  have HX := Lib.hid hX
  have HY := Lib.hid hY
  clear hX hY
  go_enter Tryd.func45, Tryd.ntmps45
  go_upto_block 0 with fail
  clear cv1 cv2
  go_cut [] (fun wc => sameL l l' = true ∧ Below (w.heap.size + 2) ((w.alloc X).alloc Y) wc)
  case first =>
    go_wp2_with fail
    go_loopg [5] l.length (fun g t5 wr => ∃ i : Nat, i ≤ l.length ∧ t5 = .int .i64 i ∧ sameL l l' = sameL (l.drop i) (l'.drop i) ∧ l.length ≤ i + g ∧ Below (w.heap.size + 2) ((w.alloc X).alloc Y) wr)
    case atStart => exact ⟨0, by omega, rfl, rfl, by omega, by rw [← HX.out, ← HY.out]; exact Below.refl _ _⟩
    case round =>
      obtain ⟨i, hi, rfl, hw, hg, hbw⟩ := hrel
      have HW := Lib.hid hw
      clear hw
      obtain ⟨hblk, hblk2⟩ := blk_alloc2 hbw
      rw [← HX.out] at hblk
      rw [← HY.out] at hblk2
      have c3 := cell_blk hblk 3
      have d3 := cell_blk hblk2 3
      clear hblk hblk2
      by_cases hlt : i < l.length
      · have hlt' : i < l'.length := by rw [← HLL.out]; exact hlt
        have hLw := hL.kept (Keeps.of_below (below_of_alloc2 hbw) _ fun _ _ h => h)
        have hLw' := hL'.kept (Keeps.of_below (below_of_alloc2 hbw) _ fun _ _ h => h)
        obtain ⟨bb, o, x0, x1, x2, x3, x4, hAd, hLi, e0, e1, e2, e3, e4⟩ := hLw.at5 hlt
        obtain ⟨bb', o', y0, y1, y2, y3, y4, hAd', hLi', g0, g1, g2, g3, g4⟩ := hLw'.at5 hlt'
        have hRi : Rep0 wr l[i] [x0, x1, x2, x3, x4] := by rw [← hLi]; exact Rep0.below (below_of_alloc2 hbw) (hLs i hlt)
        have hRi' : Rep0 wr l'[i] [y0, y1, y2, y3, y4] := by rw [← hLi']; exact Rep0.below (below_of_alloc2 hbw) (hLs' i hlt')
        clear hLi hLw hLi' hLw'
        subst hAd hAd'
        go_upto_region 6 with fail
        go_still_tail 10, (by kernel_rfl)
        have hd : Below wr.heap.size wr wr.drew := (Below.refl _ _).drew
        have hRd := Rep0.below hd hRi
        have hRd' := Rep0.below hd hRi'
        have hbd := below_alloc2_trans hbw hd
        clear hd hRi hRi' hbw c3 d3 e0 e1 e2 e3 e4 g0 g1 g2 g3 g4
        change wpList _ _ _ _ _ wr.drew
        generalize wr.drew = wd at *
        go_wp2_with fail
        refine (ihl i hlt _ _ _ _ hRd hRd').mono ?_
        rintro e w1 ⟨rfl, hb1⟩
        have hw := HW.out
        rw [sameL_step hlt hlt'] at hw
        clear HW
        cases hs : sameR l[i] l'[i] with
        | true =>
          rw [hs, Bool.true_and] at hw
          have HW2 := Lib.hid hw
          clear hw hs
          go_wp2_with fail
          go_roundg (gk - 1)
          case measure => omega
          case rel => exact ⟨i + 1, by omega, by go_num, HW2.out, by omega, below_alloc2_trans hbd hb1⟩
        | false =>
          rw [hs, Bool.false_and] at hw
          have HW2 := Lib.hid hw
          clear hw hs
          go_wp2_with fail
          go_ret
          obtain rfl : R = false := by rw [← HR.out, HW2.out]; rfl
          exact ⟨rfl, below_of_alloc2 (below_alloc2_trans hbd hb1)⟩
      · go_wp2_with fail
        go_meet
        case rel =>
          refine ⟨?_, hbw⟩
          rw [HW.out, List.drop_of_length_le (by omega), List.drop_of_length_le (by rw [← HLL.out]; omega)]
          rfl
  case rest =>
    obtain ⟨hA, hbc⟩ := hcut
    have hr := HR.out
    rw [hA, Bool.true_and] at hr
    have HR2 := Lib.hid hr
    clear hr hA HR
    go_upto_block 2 with fail
    go_cut [] (fun wc => sameF f f' = true ∧ Below (w.heap.size + 2) ((w.alloc X).alloc Y) wc)
    case first =>
      go_wp2_with fail
      go_loopg [6] f.length (fun g t5 wr => ∃ i : Nat, i ≤ f.length ∧ t5 = .int .i64 i ∧ sameF f f' = sameF (f.drop i) (f'.drop i) ∧ f.length ≤ i + g ∧ Below (w.heap.size + 2) ((w.alloc X).alloc Y) wr)
      case atStart => exact ⟨0, by omega, rfl, rfl, by omega, hbc⟩
      case round =>
        clear hbc
        obtain ⟨i, hi, rfl, hw, hg, hbw⟩ := hrel
        have HW := Lib.hid hw
        clear hw
        obtain ⟨hblk, hblk2⟩ := blk_alloc2 hbw
        rw [← HX.out] at hblk
        rw [← HY.out] at hblk2
        have c3 := cell_blk hblk 4
        have d3 := cell_blk hblk2 4
        clear hblk hblk2
        by_cases hlt : i < f.length
        · have hlt' : i < f'.length := by rw [← HFF.out]; exact hlt
          have hLw := hF.kept (Keeps.of_below (below_of_alloc2 hbw) _ fun _ _ h => h)
          have hLw' := hF'.kept (Keeps.of_below (below_of_alloc2 hbw) _ fun _ _ h => h)
          obtain ⟨bb, o, s, x0, x1, x2, x3, x4, hAd, hLi, e, e0, e1, e2, e3, e4⟩ := hLw.at6 hlt
          obtain ⟨bb', o', s', y0, y1, y2, y3, y4, hAd', hLi', g, g0, g1, g2, g3, g4⟩ := hLw'.at6 hlt'
          obtain ⟨hsn, hsl⟩ := List.cons.inj hLi
          obtain ⟨hsn', hsl'⟩ := List.cons.inj hLi'
          rw [List.getD_eq_getElem?_getD, List.getElem?_eq_getElem hlt, Option.getD_some] at hsn
          rw [List.getD_eq_getElem?_getD, List.getElem?_eq_getElem hlt', Option.getD_some] at hsn'
          have hRi : Rep0 wr (f[i]).2 [x0, x1, x2, x3, x4] := by rw [← hsl]; exact Rep0.below (below_of_alloc2 hbw) (hFs i hlt)
          have hRi' : Rep0 wr (f'[i]).2 [y0, y1, y2, y3, y4] := by rw [← hsl']; exact Rep0.below (below_of_alloc2 hbw) (hFs' i hlt')
          clear hLi hLw hLi' hLw' hsl hsl'
          subst hAd hAd' hsn hsn'
          have hw := HW.out
          rw [sameF_step hlt hlt'] at hw
          clear HW
          go_upto_region 11 with fail
          by_cases hname : (f[i]).1 = (f'[i]).1
          · rw [decide_eq_true hname, Bool.true_and] at hw
            have HW := Lib.hid hw
            clear hw
            rw [← hname] at g
            clear hname
            go_still_tail 26, (by kernel_rfl)
            have hd : Below wr.heap.size wr wr.drew := (Below.refl _ _).drew
            have hRd := Rep0.below hd hRi
            have hRd' := Rep0.below hd hRi'
            have hbd := below_alloc2_trans hbw hd
            clear hd hRi hRi' hbw c3 d3 e e0 e1 e2 e3 e4 g g0 g1 g2 g3 g4
            change wpList _ _ _ _ _ wr.drew
            generalize wr.drew = wd at *
            go_wp2_with fail
            refine (ihf i hlt _ _ _ _ hRd hRd').mono ?_
            rintro e w1 ⟨rfl, hb1⟩
            have hw := HW.out
            clear HW
            cases hs : sameR (f[i]).2 (f'[i]).2 with
            | true =>
              rw [hs, Bool.true_and] at hw
              have HW2 := Lib.hid hw
              clear hw hs
              go_wp2_with fail
              go_roundg (gk - 1)
              case measure => omega
              case rel => exact ⟨i + 1, by omega, by go_num, HW2.out, by omega, below_alloc2_trans hbd hb1⟩
            | false =>
              rw [hs, Bool.false_and] at hw
              have HW2 := Lib.hid hw
              clear hw hs
              go_wp2_with fail
              go_ret
              obtain rfl : R = false := by rw [← HR2.out, HW2.out]
              exact ⟨rfl, below_of_alloc2 (below_alloc2_trans hbd hb1)⟩
          · have hs := str_bne hname
            have hs2 := str_beq hname
            rw [decide_eq_false hname, Bool.false_and, Bool.false_and] at hw
            obtain rfl : R = false := by rw [← HR2.out, hw]
            clear hw hname
            go_quiet (fail)
            go_wp2_with fail
            go_ret
            have hd : Below wr.heap.size wr (wr.drewN nq) := below_drewN _ _ _
            exact ⟨rfl, below_of_alloc2 (below_alloc2_trans hbw hd)⟩
        · go_wp2_with fail
          go_meet
          case rel =>
            refine ⟨?_, hbw⟩
            rw [HW.out, List.drop_of_length_le (by omega), List.drop_of_length_le (by rw [← HFF.out]; omega)]
            rfl
    case rest =>
      obtain ⟨hB, hbc⟩ := hcut
      obtain rfl : R = true := by rw [← HR2.out, hB]
      go_wp2_with fail
      go_ret
      exact ⟨rfl, below_of_alloc2 hbc⟩
end Go.Proofs.YtljdfainnmpjnaaDoor

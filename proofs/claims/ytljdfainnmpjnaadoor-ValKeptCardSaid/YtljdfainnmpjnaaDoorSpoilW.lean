/- The law ValKept's 'spoil': the walk. -/
import Derived.Test.YtljdfainnmpjnaaDoorSpoil
import Derived.Test.YtljdfainnmpjnaaDoorAwake
set_option linter.unusedVariables false
namespace Go.Proofs.YtljdfainnmpjnaaDoor
open Go.RowKit

theorem WF.shape {w : World} {base lim d : Nat} {cs : List Value} (h : WF w base lim d cs) : ∃ (k n : Int) (AB AL AF : Option Addr) (nb cb nl cl nf cf : Nat), cs = [.int .i64 k, .int .u64 n, .slice AB nb cb, .slice AL nl cl, .slice AF nf cf] := by
  cases d with
  | zero => exact h.elim
  | succ d =>
    obtain ⟨k, n, AB, AL, AF, nb, cb, nl, cl, nf, cf, rfl, -⟩ := h
    exact ⟨_, _, _, _, _, _, _, _, _, _, _, rfl⟩
/-- The element i of a row of values. -/
theorem WF.elem {w : World} {base lim d : Nat} {k n : Int} {AB AL AF : Option Addr} {nb cb nl cl nf cf : Nat} (h : WF w base lim (d + 1) [.int .i64 k, .int .u64 n, .slice AB nb cb, .slice AL nl cl, .slice AF nf cf]) {i : Nat} (hi : i < nl) :
    ∃ (b oo o : Nat) (cur : Array Value) (k' n' : Int) (AB' AL' AF' : Option Addr) (nb' cb' nl' cl' nf' cf' : Nat), AL = some ⟨b, oo, none⟩ ∧ o * 5 = oo ∧ base ≤ b ∧ b < lim ∧ w.heap[b]? = some (.cells cur 27 (0, 0)) ∧ (o + i) * 5 + 4 < cur.size ∧
      w.cell? ⟨b, oo + i * 5, none⟩ = some (.int .i64 k') ∧ w.cell? ⟨b, oo + i * 5 + 1, none⟩ = some (.int .u64 n') ∧ w.cell? ⟨b, oo + i * 5 + 2, none⟩ = some (.slice AB' nb' cb') ∧ w.cell? ⟨b, oo + i * 5 + 3, none⟩ = some (.slice AL' nl' cl') ∧ w.cell? ⟨b, oo + i * 5 + 4, none⟩ = some (.slice AF' nf' cf') ∧
      WF w base lim d [.int .i64 k', .int .u64 n', .slice AB' nb' cb', .slice AL' nl' cl', .slice AF' nf' cf'] := by
  obtain ⟨k1, n1, AB1, AL1, AF1, nb1, cb1, nl1, cl1, nf1, cf1, e, -, -, hL, -⟩ := h
  cases e
  obtain ⟨b, o, cur, hA, h1, h2, h3, h4⟩ := hL (by omega)
  obtain ⟨c0, c1, c2, c3, c4, e0, e1, e2, e3, e4, hw⟩ := h4 i hi
  obtain ⟨k', n', AB', AL', AF', nb', cb', nl', cl', nf', cf', e⟩ := hw.shape
  cases e
  have e5 : o * 5 + i * 5 = (o + i) * 5 := (Nat.add_mul o i 5).symm
  have hsz := (Array.getElem?_eq_some_iff.1 e4).1
  rw [← e5] at e0 e1 e2 e3 e4
  exact ⟨b, _, o, cur, _, _, _, _, _, _, _, _, _, _, _, hA, rfl, h1, h2, h3, hsz, (cell_blk h3 _).trans e0, (cell_blk h3 _).trans e1, (cell_blk h3 _).trans e2, (cell_blk h3 _).trans e3, (cell_blk h3 _).trans e4, hw⟩
theorem WF.field {w : World} {base lim d : Nat} {k n : Int} {AB AL AF : Option Addr} {nb cb nl cl nf cf : Nat} (h : WF w base lim (d + 1) [.int .i64 k, .int .u64 n, .slice AB nb cb, .slice AL nl cl, .slice AF nf cf]) {i : Nat} (hi : i < nf) :
    ∃ (b oo o : Nat) (cur : Array Value) (s : Value) (k' n' : Int) (AB' AL' AF' : Option Addr) (nb' cb' nl' cl' nf' cf' : Nat), AF = some ⟨b, oo, none⟩ ∧ o * 6 = oo ∧ base ≤ b ∧ b < lim ∧ w.heap[b]? = some (.cells cur 59 (0, 0)) ∧ (o + i) * 6 + 5 < cur.size ∧ w.cell? ⟨b, oo + i * 6, none⟩ = some s ∧
      w.cell? ⟨b, oo + i * 6 + 1, none⟩ = some (.int .i64 k') ∧ w.cell? ⟨b, oo + i * 6 + 2, none⟩ = some (.int .u64 n') ∧ w.cell? ⟨b, oo + i * 6 + 3, none⟩ = some (.slice AB' nb' cb') ∧ w.cell? ⟨b, oo + i * 6 + 4, none⟩ = some (.slice AL' nl' cl') ∧ w.cell? ⟨b, oo + i * 6 + 5, none⟩ = some (.slice AF' nf' cf') ∧
      WF w base lim d [.int .i64 k', .int .u64 n', .slice AB' nb' cb', .slice AL' nl' cl', .slice AF' nf' cf'] := by
  obtain ⟨k1, n1, AB1, AL1, AF1, nb1, cb1, nl1, cl1, nf1, cf1, e, -, -, -, hF⟩ := h
  cases e
  obtain ⟨b, o, cur, hA, h1, h2, h3, h4⟩ := hF (by omega)
  obtain ⟨s, c0, c1, c2, c3, c4, es, e0, e1, e2, e3, e4, hw⟩ := h4 i hi
  obtain ⟨k', n', AB', AL', AF', nb', cb', nl', cl', nf', cf', e⟩ := hw.shape
  cases e
  have e5 : o * 6 + i * 6 = (o + i) * 6 := (Nat.add_mul o i 6).symm
  have hsz := (Array.getElem?_eq_some_iff.1 e4).1
  rw [← e5] at e0 e1 e2 e3 e4 es
  exact ⟨b, _, o, cur, s, _, _, _, _, _, _, _, _, _, _, _, hA, rfl, h1, h2, h3, hsz, (cell_blk h3 _).trans es, (cell_blk h3 _).trans e0, (cell_blk h3 _).trans e1, (cell_blk h3 _).trans e2, (cell_blk h3 _).trans e3, (cell_blk h3 _).trans e4, hw⟩

set_option maxRecDepth 100000 in
set_option maxHeartbeats 4000000 in
theorem spoil_any (base lim : Nat) : ∀ (d : Nat) (cs : List Value) (w : World), WF w base lim d cs → lim ≤ w.heap.size →
    Calls Tryd.prog 22 #[.agg cs.toArray] w fun e w' => e = .returned (.tuple #[]) ∧ Spoils base lim w w' := by
  intro d
  induction d with
  | zero => exact fun cs w h _ => h.elim
  | succ d ih =>
  intro cs w hwf hlim
  have hwf' := hwf
  obtain ⟨k, n, AB, AL, AF, nb, cb, nl, cl, nf, cf, rfl, ⟨hs1, hs2, hs3⟩, -⟩ := hwf
  have s01 : Spoils base lim w (w.alloc (.cells #[.int .i64 k, .int .u64 n, .slice AB nb cb, .slice AL nl cl, .slice AF nf cf] 27)) := Spoils.of_below ((Below.refl _ _).alloc (Nat.le_refl _) _)
  have q1 := heap_alloc_new w (.cells #[.int .i64 k, .int .u64 n, .slice AB nb cb, .slice AL nl cl, .slice AF nf cf] 27)
  have hw1 := s01.whole _ _ hwf'
  have HW := Lib.hid hw1
  have HS1 := Lib.hid s01
  have HQ1 := Lib.hid q1
  have HIH := @Lib.hid _ @ih
  obtain ⟨p, hp⟩ : ∃ p, p = w.heap.size := ⟨_, rfl⟩
  rw [← hp] at hlim
  have HP := Lib.hid hp
  rw [← hp] at q1
  have HQ1 := Lib.hid q1
  clear hwf' s01 hw1 ih q1 hp
  go_enter Tryd.func22, Tryd.ntmps22
  go_wp2_with fail
  rw [← HP.out]
  generalize w.alloc _ = w1 at HW HS1 HQ1 ⊢
  clear HP
  go_loopg [2] nb (fun g t2 wr => ∃ i : Nat, i ≤ nb ∧ t2 = .int .i64 i ∧ nb ≤ i + g ∧ Spoils base lim w1 wr)
  case atStart => exact ⟨0, by omega, rfl, by omega, Spoils.refl _ _ _⟩
  case round =>
    obtain ⟨i, hi, rfl, hg, hsp⟩ := hrel
    have q := hsp.blk HQ1.out hlim
    have c2 := cell_blk q 2
    by_cases hlt : i < nb
    · obtain ⟨k', n', AB', AL', AF', nb', cb', nl', cl', nf', cf', e, -, hB, -, -⟩ := hsp.whole _ _ HW.out
      cases e
      obtain ⟨b, o, cur, rfl, hb1, hb2, hblk, hsz⟩ := hB (by omega)
      obtain ⟨x, hx⟩ : ∃ x, cur[o + i]? = some x := ⟨cur[o + i]'(by omega), by simp⟩
      have cx := cell_blk hblk (o + i)
      rw [hx] at cx
      have fx := frozen_blk hblk (o + i)
      have hs := hsp.trans (spoils_byte (j := o + i) hblk ⟨hb1, hb2⟩ (.int .u8 98))
      have HSP := Lib.hid hs
      clear q hs hblk hsz hx hB hsp
      go_wp2_with fail
      go_roundg (gk - 1)
      case measure => omega
      case rel => exact ⟨i + 1, by omega, by go_num, by omega, HSP.out⟩
    · obtain rfl : i = nb := by omega
      have HSA := Lib.hid hsp
      clear q hsp
      obtain ⟨wo, hwo⟩ : ∃ wo, wo = wr := ⟨_, rfl⟩
      subst hwo
      go_wp2_with fail
      clear c2 hlt
      go_loopg [3] nl (fun g t3 wr => ∃ i : Nat, i ≤ nl ∧ t3 = .int .i64 i ∧ nl ≤ i + g ∧ Spoils base lim w1 wr)
      case atStart => exact ⟨0, by omega, rfl, by omega, HSA.out⟩
      case round =>
        clear HSA hg
        obtain ⟨i, hi, rfl, hg, hsp⟩ := hrel
        have q := hsp.blk HQ1.out hlim
        have c3 := cell_blk q 3
        by_cases hlt : i < nl
        · obtain ⟨b, oo, o, cur, k', n', AB', AL', AF', nb', cb', nl', cl', nf', cf', rfl, hoo, hb1, hb2, hblk, hsz, e0, e1, e2, e3, e4, hw⟩ := (hsp.whole _ _ HW.out).elem hlt
          have HC := Lib.hid (HIH.out _ wr hw (by have := hsp.size; have := (Array.getElem?_eq_some_iff.1 HQ1.out).1; omega))
          clear hoo
          have HSP := Lib.hid hsp
          clear q hsp hblk hsz hw
          go_upto_region 9 with fail
          refine HC.out.mono ?_
          rintro e w4 ⟨rfl, hsp4⟩
          have hsp4' := HSP.out.trans hsp4
          have q4 := hsp4'.blk HQ1.out hlim
          obtain ⟨b2, oo2, o2, cur2, k2, n2, AB2, AL2, AF2, nb2, cb2, nl2, cl2, nf2, cf2, eA, ho2, -, -, hblk2, hsz2, -⟩ := (hsp4'.whole _ _ HW.out).elem hlt
          simp only [Option.some.injEq, Addr.mk.injEq, and_true] at eA
          obtain ⟨rfl, rfl⟩ := eA
          have hsz3 : (o2 + i) * 5 + 4 < cur2.size := hsz2
          have e5 : oo + i * 5 = (o2 + i) * 5 := by rw [← ho2]; exact (Nat.add_mul o2 i 5).symm
          have hst : ∀ W, Below w4.heap.size w4 W → Spoils base lim w1 (five0 W b (oo + i * 5) (.int .i64 3) (.int .u64 97) (.slice none 0 0) (.slice none 0 0) (.slice none 0 0)) := fun W hW => by
            rw [e5]
            exact (hsp4'.trans (Spoils.of_below hW)).trans (spoils_val (blk_below hblk2 hW) ⟨hb1, hb2⟩ hsz3 3 97)
          have HST := Lib.hid hst
          have hce : ∀ W, Below w4.heap.size w4 W → ∀ j, j < 5 → (∃ x, W.cell? ⟨b, oo + i * 5 + j, none⟩ = some x) ∧ W.frozen? ⟨b, oo + i * 5 + j, none⟩ = false := fun W hW j hj => by
            have hb := blk_below hblk2 hW
            refine ⟨⟨cur2[oo + i * 5 + j]'(by omega), ?_⟩, frozen_blk hb _⟩
            rw [cell_blk hb, Array.getElem?_eq_getElem (by omega)]
          have HCE := Lib.hid hce
          have HQ4 := Lib.hid q4
          clear HSP hsp4 hsp4' q4 hblk2 hsz2 hsz3 e5 hst hce ho2 HC c3 e0 e1 e2 e3 e4
          have hI : Calls Tryd.prog 24 #[.int .i64 97] w4.drew (fun e w' => ∃ r, e = .returned r ∧ (r = .agg #[.int .i64 3, .int .u64 97, .slice none 0 0, .slice none 0 0, .slice none 0 0] ∧ Below w4.drew.heap.size w4.drew w')) := by
            have hwr : IntKind.u64.wrap 97 = 97 := by decide
            refine (I_any 97 w4.drew).mono ?_
            rintro e w' ⟨rfl, hb⟩
            rw [hwr]
            exact ⟨_, rfl, rfl, hb⟩
          have HI := Lib.hid hI
          clear hI
          have qd := blk_below HQ4.out (below_drew w4)
          have c3 := cell_blk qd 3
          obtain ⟨⟨x0, d0⟩, f0⟩ := HCE.out _ (below_drew w4) 0 (by omega)
          obtain ⟨⟨x1, d1⟩, f1⟩ := HCE.out _ (below_drew w4) 1 (by omega)
          obtain ⟨⟨x2, d2⟩, f2⟩ := HCE.out _ (below_drew w4) 2 (by omega)
          obtain ⟨⟨x3, d3⟩, f3⟩ := HCE.out _ (below_drew w4) 3 (by omega)
          obtain ⟨⟨x4, d4⟩, f4⟩ := HCE.out _ (below_drew w4) 4 (by omega)
          rw [Nat.add_zero] at d0 f0
          clear qd
          go_upto_region 9 with fail
          go_region_law (first
            | (refine step_call1E 24 rfl (.const (.int .i64 97)) _ rfl rfl (enters_of Tryd.func24 (by kernel_rfl) rfl) HI.out ?_; rintro r5 w5 ⟨rfl, hb5⟩; have bd5 := below_step (below_drew w4) (Nat.le_refl _) hb5; have q5 := blk_below HQ4.out bd5; have c3' := cell_blk q5 3; obtain ⟨⟨y0, g0⟩, k0⟩ := HCE.out _ bd5 0 (by omega); rw [Nat.add_zero] at g0 k0; obtain ⟨⟨y1, g1⟩, k1⟩ := HCE.out _ bd5 1 (by omega); obtain ⟨⟨y2, g2⟩, k2⟩ := HCE.out _ bd5 2 (by omega); obtain ⟨⟨y3, g3⟩, k3⟩ := HCE.out _ bd5 3 (by omega); obtain ⟨⟨y4, g4⟩, k4⟩ := HCE.out _ bd5 4 (by omega); have HF := Lib.hid (HST.out _ bd5); clear bd5 q5 hb5))
          all_goals
            clear HCE HST HI d0 d1 d2 d3 d4 f0 f1 f2 f3 f4 g0 g1 g2 g3 g4 k0 k1 k2 k3 k4 c3 c3'
            go_wp2_with fail
            go_roundg (gk - 1)
            case measure => omega
            case rel => exact ⟨i + 1, by omega, by go_num, by omega, HF.out⟩
        · obtain rfl : i = nl := by omega
          have HSA := Lib.hid hsp
          clear q hsp
          obtain ⟨wo, hwo⟩ : ∃ wo, wo = wr := ⟨_, rfl⟩
          subst hwo
          go_wp2_with fail
          clear c3 hlt
          go_loopg [4] nf (fun g t4 wr => ∃ i : Nat, i ≤ nf ∧ t4 = .int .i64 i ∧ nf ≤ i + g ∧ Spoils base lim w1 wr)
          case atStart => exact ⟨0, by omega, rfl, by omega, HSA.out⟩
          case round =>
            clear HSA hg
            obtain ⟨i, hi, rfl, hg, hsp⟩ := hrel
            have q := hsp.blk HQ1.out hlim
            have c4 := cell_blk q 4
            by_cases hlt : i < nf
            · obtain ⟨b, oo, o, cur, s, k', n', AB', AL', AF', nb', cb', nl', cl', nf', cf', rfl, hoo, hb1, hb2, hblk, hsz, e, e0, e1, e2, e3, e4, hw⟩ := (hsp.whole _ _ HW.out).field hlt
              have HC := Lib.hid (HIH.out _ wr hw (by have := hsp.size; have := (Array.getElem?_eq_some_iff.1 HQ1.out).1; omega))
              clear hoo
              have HSP := Lib.hid hsp
              clear q hsp hblk hsz hw
              go_upto_region 14 with fail
              refine HC.out.mono ?_
              rintro e w4 ⟨rfl, hsp4⟩
              have hsp4' := HSP.out.trans hsp4
              have q4 := hsp4'.blk HQ1.out hlim
              obtain ⟨b2, oo2, o2, cur2, s2, k2, n2, AB2, AL2, AF2, nb2, cb2, nl2, cl2, nf2, cf2, eA, ho2, -, -, hblk2, hsz2, -⟩ := (hsp4'.whole _ _ HW.out).field hlt
              simp only [Option.some.injEq, Addr.mk.injEq, and_true] at eA
              obtain ⟨rfl, rfl⟩ := eA
              have e5 : oo + i * 6 = (o2 + i) * 6 := by rw [← ho2]; exact (Nat.add_mul o2 i 6).symm
              have hst : Spoils base lim w1 (six0 w4 b (oo + i * 6) (.string ⟨#[113]⟩) (.int .i64 0) (.int .u64 0) (.slice none 0 0) (.slice none 0 0) (.slice none 0 0)) := by
                rw [e5]
                exact hsp4'.trans (spoils_field hblk2 ⟨hb1, hb2⟩ hsz2 _ 0 0)
              have HST := Lib.hid hst
              have hce : ∀ j, j < 6 → (∃ x, w4.cell? ⟨b, oo + i * 6 + j, none⟩ = some x) ∧ w4.frozen? ⟨b, oo + i * 6 + j, none⟩ = false := fun j hj => by
                refine ⟨⟨cur2[oo + i * 6 + j]'(by omega), ?_⟩, frozen_blk hblk2 _⟩
                rw [cell_blk hblk2, Array.getElem?_eq_getElem (by omega)]
              clear c4 e e0 e1 e2 e3 e4
              have c4 := cell_blk q4 4
              obtain ⟨⟨x, d⟩, f⟩ := hce 0 (by omega)
              rw [Nat.add_zero] at d f
              obtain ⟨⟨x0, d0⟩, f0⟩ := hce 1 (by omega)
              obtain ⟨⟨x1, d1⟩, f1⟩ := hce 2 (by omega)
              obtain ⟨⟨x2, d2⟩, f2⟩ := hce 3 (by omega)
              obtain ⟨⟨x3, d3⟩, f3⟩ := hce 4 (by omega)
              obtain ⟨⟨x4, d4⟩, f4⟩ := hce 5 (by omega)
              clear HSP hsp4 hsp4' q4 hblk2 hsz2 e5 hst hce ho2 HC
              go_wp2_with fail
              go_roundg (gk - 1)
              case measure => omega
              case rel => exact ⟨i + 1, by omega, by go_num, by omega, HST.out⟩
            · go_wp2_with fail
              go_end0
              exact ⟨rfl, HS1.out.trans hsp⟩
end Go.Proofs.YtljdfainnmpjnaaDoor

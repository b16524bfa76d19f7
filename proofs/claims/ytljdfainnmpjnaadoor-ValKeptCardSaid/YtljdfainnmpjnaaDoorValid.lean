/- The library's test of bytes: utf8.Valid tells what the reference tells. -/
import Derived.Test.YtljdfainnmpjnaaDoorWord
import Derived.BigQuiet
import Derived.Deep.CutBlock
import Derived.Deep.DeepCutAuto
import Derived.Deep.LoopGhost
import Derived.Laws.BitsAllLaws
set_option linter.unusedVariables false
namespace Go.Proofs.YtljdfainnmpjnaaDoor
open Go.RowKit

theorem get8 {l : List UInt8} (h : 8 ≤ l.length) : l.take 8 = [l.getD 0 0, l.getD 1 0, l.getD 2 0, l.getD 3 0, l.getD 4 0, l.getD 5 0, l.getD 6 0, l.getD 7 0] := by
  match l, h with
  | a0 :: a1 :: a2 :: a3 :: a4 :: a5 :: a6 :: a7 :: r, _ => simp
/-- The word that a row of bytes begins with, in whatever world comes later. -/
theorem word_row {w W : World} {S : Nat → Prop} {A : Option Addr} {l : List UInt8} (h : BRow w S A l) (h8 : 8 ≤ l.length) (hb : Below w.heap.size w W) (n c : Nat) (hn : n = l.length) :
    Calls Tryd.prog 90 #[.slice A n c] W fun e w' => e = .returned (.int .u64 (Lib.leNat (l.take 8))) ∧ ∃ q, w' = W.drewN q := by
  subst hn
  obtain ⟨b, o, rfl, -, -, hc⟩ := h.at (by omega)
  have cc : ∀ i, i < l.length → W.cell? ⟨b, o + i, none⟩ = some (.int .u8 (l.getD i 0).toNat) := fun i hi => below_cell hb (hc i hi)
  rw [get8 h8]
  exact word8_any b o l.length c _ _ _ _ _ _ _ _ W h8 (cc 0 (by omega)) (cc 1 (by omega)) (cc 2 (by omega)) (cc 3 (by omega)) (cc 4 (by omega)) (cc 5 (by omega)) (cc 6 (by omega)) (cc 7 (by omega))
/-- The first k bytes are ASCII. -/
def AscL (l : List UInt8) (k : Nat) : Prop := ∀ b ∈ l.take k, b.toNat < 128
theorem ascL_word {l : List UInt8} (h : 8 ≤ l.length) : Lib.leNat (l.take 8) &&& 9259542123273814144 = 0 ↔ AscL l 8 := by
  have h8 : (l.take 8).length = 8 := by rw [List.length_take]; omega
  have := Lib.leNat_mask (l.take 8)
  rw [h8, Lib.maskN8] at this
  exact this
theorem ascL_add {l : List UInt8} {a b : Nat} (ha : AscL l a) (hb : AscL (l.drop a) b) : AscL l (a + b) := by
  unfold AscL at *
  rw [List.take_add]
  intro x hx
  rcases List.mem_append.1 hx with h | h
  · exact ha x h
  · exact hb x h
theorem ascL_skip {l : List UInt8} {k : Nat} (h : AscL l k) : Lib.validD (l.drop k) = Lib.validD l := (Lib.validD_ascii k l h).symm
theorem word_lt' (l : List UInt8) : Lib.leNat (l.take 8) < 18446744073709551616 := by
  have h := Lib.leNat_lt (l.take 8)
  have h2 : (256 : Nat) ^ (l.take 8).length ≤ 256 ^ 8 := Nat.pow_le_pow_right (by omega) (by rw [List.length_take]; omega)
  omega
theorem below_drewNv {B : Nat} {a w : World} (h : Below B a w) : ∀ q, Below B a (w.drewN q)
  | 0 => h
  | q + 1 => (below_drewNv h q).drew
set_option maxRecDepth 100000 in
theorem and7 : ∀ X : Fin 256, bits .and .u8 ((X.val : Nat) : Int) 7 = ((X.val % 8 : Nat) : Int) := by decide

/-- What is left of a row behind its first k bytes. -/
theorem run_drop {w : World} {S : Nat → Prop} {A : Option Addr} {l : List UInt8} (h : BRow w S A l) (k : Nat) (z : Int) (hz : z = k) (hk : k ≤ l.length) :
    ∃ A', (∀ W, (Instr.slice 22 (.slice A l.length l.length) (some (.int .i64 z)) none none).run Tryd.prog W = .ok (.slice A' (l.drop k).length (l.drop k).length) W) ∧ BRow w S A' (l.drop k) := by
  subst hz
  refine ⟨if l.length = k then A else A.map fun x => x.add k, fun W => ?_, ?_⟩
  · rw [run_slice_l W 22 A l.length l.length (by kernel_rfl) .i64 (k : Int) (by omega) (by omega)]
    simp [go_sem, sliced]
  · by_cases e : l.length = k
    · rw [if_pos e, List.drop_of_length_le (by omega)]
      exact Row.nil w S _ 1 _
    · rw [if_neg e]
      exact bdrop' h k

set_option maxHeartbeats 16000000 in
set_option maxRecDepth 1000000 in
theorem valid_any (bs : List UInt8) (S : Nat → Prop) (A : Option Addr) (c : Nat) (w : World) (hT : Tabs w) (hA : BRow w S A bs) (hc1 : bs.length ≤ c) (hc2 : c ≤ 9223372036854775807) :
    Calls Tryd.prog 69 #[.slice A bs.length c] w fun e w' => e = .returned (.bool (utfR bs)) ∧ Below w.heap.size w w' := by
  obtain ⟨ANS, hANS⟩ : ∃ ANS, utfR bs = ANS := ⟨_, rfl⟩
  rw [hANS]
  rw [← validD_utfR bs.length bs (Nat.le_refl _)] at hANS
  have HANS := Lib.hid hANS
  have HT := Lib.hid hT
  clear hANS hT
  go_enter Tryd.func69, Tryd.ntmps69
  go_wp2_with fail
  go_loopg [0] (bs.length + 1) (fun gk s0 wx => Below w.heap.size w wx ∧ ∃ (A : Option Addr) (l : List UInt8), s0 = .slice A l.length l.length ∧ BRow w S A l ∧ Lib.validD l = ANS ∧ l.length < gk ∧ l.length ≤ 9223372036854775807)
  case atStart => exact ⟨Below.refl _ _, A, bs, rfl, hA, HANS.out, by omega, by omega⟩
  case round =>
    obtain ⟨hbw, A', l, rfl, hr, hv, hg, hl⟩ := hrel
    clear HANS hA hc1 hc2
    have HV := Lib.hid hv
    clear hv
    by_cases h0 : 0 < l.length
    · obtain ⟨g', rfl⟩ : ∃ g', gk = g' + 1 := ⟨gk - 1, by omega⟩
      obtain ⟨b, o, rfl, -, -, hc⟩ := hr.at h0
      have h0z : (0 : Int) < (l.length : Int) := by omega
      have c0 := below_cell hbw (hc 0 h0)
      rw [Nat.add_zero] at c0
      obtain ⟨x0, hx0⟩ : ∃ x0, l.getD 0 0 = x0 := ⟨_, rfl⟩
      rw [hx0] at c0
      have hx0lt : x0.toNat < 256 := x0.toNat_lt
      have HX0 := Lib.hid hx0
      clear hx0
      by_cases hasc : x0.toNat < 128
      · as_aux_lemma =>
          have hascz : (x0.toNat : Int) < 128 := by omega
          obtain ⟨A1, hs1, hr1⟩ := run_drop hr 1 1 rfl h0
          obtain ⟨l1, hl1⟩ : ∃ l1, l.drop 1 = l1 := ⟨_, rfl⟩
          rw [hl1] at hs1 hr1
          have z1 : l1.length + 1 = l.length := by rw [← hl1, List.length_drop]; omega
          have v1 : Lib.validD l1 = ANS := by
            rw [← hl1, ascL_skip ?_]
            · exact HV.out
            · intro x hx
              have := HX0.out
              cases l with
              | nil => cases h0
              | cons c r => simp at this hx; rw [hx, this]; exact hasc
          clear hl1
          have V1 := Lib.hid v1
          have Z1' := Lib.hid z1
          clear v1 z1
          clear hc hr
          by_cases c8 : 8 < l1.length
          · have c8z : (8 : Int) < (l1.length : Int) := by omega
            obtain ⟨N1, hN1⟩ : ∃ N1, Lib.leNat (l1.take 8) = N1 := ⟨_, rfl⟩
            have lN1 : N1 < 18446744073709551616 := hN1 ▸ word_lt' l1
            have cW1 : ∀ W, Below w.heap.size w W → Calls Tryd.prog 90 #[.slice A1 l1.length l1.length] W fun e w' => e = .returned (.int .u64 N1) ∧ ∃ q, w' = W.drewN q := fun W hb => by rw [← hN1]; exact word_row hr1 (by omega) hb _ _ rfl
            have k1 := ascL_word (l := l1) (by omega)
            rw [hN1] at k1
            have hand1 : bits .and .u64 (N1 : Int) 9259542123273814144 = ((N1 &&& 9259542123273814144 : Nat) : Int) := u64_and_nat N1 9259542123273814144 lN1 (by omega)
            obtain ⟨Z1, hZ1⟩ : ∃ Z1, N1 &&& 9259542123273814144 = Z1 := ⟨_, rfl⟩
            rw [hZ1] at hand1 k1
            clear hZ1 hN1
            by_cases hz1 : Z1 = 0
            · have hz1b : ((Z1 : Int) == 0) = true := by simp [hz1]
              have a8 : AscL l1 8 := k1.1 hz1
              obtain ⟨A2, hs2, hr2⟩ := run_drop hr1 8 8 rfl (by omega)
              obtain ⟨l2, hl2⟩ : ∃ l2, l1.drop 8 = l2 := ⟨_, rfl⟩
              rw [hl2] at hs2 hr2
              have z2 : l2.length + 8 = l1.length := by rw [← hl2, List.length_drop]; omega
              have V2 := Lib.hid (show Lib.validD l2 = ANS by rw [← hl2, ascL_skip a8]; exact V1.out)
              have Z2 := Lib.hid z2
              clear k1 a8 hl2 hz1 z2
              go_wp2_with fail
              refine (cW1 _ hbw).mono ?_
              rintro e W1 ⟨rfl, q1, rfl⟩
              have hb1 : Below w.heap.size w (wr.drewN q1) := below_drewNv hbw q1
              generalize wr.drewN q1 = wq at hb1 ⊢
              clear cW1 hbw
              go_wp2_with fail
              by_cases c16 : 16 < l2.length
              · have c16z : (16 : Int) < (l2.length : Int) := by omega
                obtain ⟨A2b, hs2b, hr2b⟩ := run_drop hr2 8 8 rfl (by omega)
                obtain ⟨l2b, hl2b⟩ : ∃ l2b, l2.drop 8 = l2b := ⟨_, rfl⟩
                rw [hl2b] at hs2b hr2b
                have z2b : l2b.length + 8 = l2.length := by rw [← hl2b, List.length_drop]; omega
                obtain ⟨N2, hN2⟩ : ∃ N2, Lib.leNat (l2.take 8) = N2 := ⟨_, rfl⟩
                obtain ⟨N3, hN3⟩ : ∃ N3, Lib.leNat (l2b.take 8) = N3 := ⟨_, rfl⟩
                have lN2 : N2 < 18446744073709551616 := hN2 ▸ word_lt' l2
                have lN3 : N3 < 18446744073709551616 := hN3 ▸ word_lt' l2b
                have cW2 : ∀ W, Below w.heap.size w W → Calls Tryd.prog 90 #[.slice A2 l2.length l2.length] W fun e w' => e = .returned (.int .u64 N2) ∧ ∃ q, w' = W.drewN q := fun W hb => by rw [← hN2]; exact word_row hr2 (by omega) hb _ _ rfl
                have cW3 : ∀ W, Below w.heap.size w W → Calls Tryd.prog 90 #[.slice A2b l2b.length l2b.length] W fun e w' => e = .returned (.int .u64 N3) ∧ ∃ q, w' = W.drewN q := fun W hb => by rw [← hN3]; exact word_row hr2b (by omega) hb _ _ rfl
                have cQ2 : ∀ q, Calls Tryd.prog 90 #[.slice A2 l2.length l2.length] (wq.drewN q) fun e w' => e = .returned (.int .u64 N2) ∧ ∃ q', w' = (wq.drewN q).drewN q' := fun q => cW2 _ (below_drewNv hb1 q)
                have cQ3 : ∀ q, Calls Tryd.prog 90 #[.slice A2b l2b.length l2b.length] (wq.drewN q) fun e w' => e = .returned (.int .u64 N3) ∧ ∃ q', w' = (wq.drewN q).drewN q' := fun q => cW3 _ (below_drewNv hb1 q)
                have kA2 := ascL_word (l := l2) (by omega)
                have kA3 := ascL_word (l := l2b) (by omega)
                rw [hN2] at kA2
                rw [hN3] at kA3
                have hor2 : bits .or .u64 (N2 : Int) (N3 : Int) = ((N2 ||| N3 : Nat) : Int) := u64_or_nat N2 N3 lN2 lN3
                have lor2 : N2 ||| N3 < 18446744073709551616 := Nat.or_lt_two_pow (n := 64) lN2 lN3
                have hand2 : bits .and .u64 ((N2 ||| N3 : Nat) : Int) 9259542123273814144 = (((N2 ||| N3) &&& 9259542123273814144 : Nat) : Int) := u64_and_nat _ 9259542123273814144 lor2 (by omega)
                have k2 : (N2 ||| N3) &&& 9259542123273814144 = 0 → AscL l2 16 := fun h0' => by
                  obtain ⟨e1, e2⟩ := (Lib.or_mask N2 N3 _).1 h0'
                  exact ascL_add (a := 8) (b := 8) (kA2.1 e1) (by rw [hl2b]; exact kA3.1 e2)
                obtain ⟨O2, hO2⟩ : ∃ O2, N2 ||| N3 = O2 := ⟨_, rfl⟩
                rw [hO2] at hor2 hand2 k2
                obtain ⟨Y2, hY2⟩ : ∃ Y2, O2 &&& 9259542123273814144 = Y2 := ⟨_, rfl⟩
                rw [hY2] at hand2 k2
                have CQ2 := @Lib.hid _ @cQ2
                have CQ3 := @Lib.hid _ @cQ3
                clear kA2 kA3 lor2 hO2 hY2 hN2 hN3 hl2b z2b cW2 cW3 cQ2 cQ3 lN2 lN3 hand1 hs1 lN1 c8z hz1b hs2
                by_cases hz2 : Y2 = 0
                · have hz2b : ((Y2 : Int) == 0) = true := by simp [hz2]
                  have a16 := k2 hz2
                  obtain ⟨A3, hs3, hr3⟩ := run_drop hr2 16 16 rfl (by omega)
                  obtain ⟨l3, hl3⟩ : ∃ l3, l2.drop 16 = l3 := ⟨_, rfl⟩
                  rw [hl3] at hs3 hr3
                  have z3 : l3.length + 16 = l2.length := by rw [← hl3, List.length_drop]; omega
                  have V3 := Lib.hid (show Lib.validD l3 = ANS by rw [← hl3, ascL_skip a16]; exact V2.out)
                  have Z3 := Lib.hid z3
                  clear k2 a16 hl3 hz2 z3
                  go_quiet (with_reducible (first | exact Calls.quiet_of (CQ2.out _) | exact Calls.quiet_of (CQ3.out _)))
                  have hb2 : Below w.heap.size w (wq.drewN nq) := below_drewNv hb1 nq
                  generalize wq.drewN nq = wq2 at hb2 ⊢
                  clear hb1 CQ2 CQ3 hs2b hr2b hor2 hand2 hz2b c16z
                  go_wp2_with fail
                  go_loopg [0] (l3.length + 1) (fun g2 s0 wx => Below w.heap.size w wx ∧ ∃ (A : Option Addr) (u : List UInt8), s0 = .slice A u.length u.length ∧ BRow w S A u ∧ Lib.validD u = ANS ∧ u.length < g2 ∧ u.length ≤ l3.length)
                  case atStart => exact ⟨hb2, A3, l3, rfl, hr3, V3.out, by omega, Nat.le_refl _⟩
                  case round =>
                    obtain ⟨hbu, Au, u, rfl, hru, vu, hgu, hut⟩ := hrel
                    have VU := Lib.hid vu
                    clear vu
                    have Z13 : l3.length < g' := by have := Z1'.out; have := Z2.out; have := Z3.out; omega
                    have Z14 : l3.length ≤ 9223372036854775807 := by have := Z1'.out; have := Z2.out; have := Z3.out; omega
                    by_cases c32 : 32 < u.length
                    · obtain ⟨g3, rfl⟩ : ∃ g3, gk = g3 + 1 := ⟨gk - 1, by omega⟩
                      have c32z : (32 : Int) < (u.length : Int) := by omega
                      obtain ⟨Ab, hsb, hrb⟩ := run_drop hru 8 8 rfl (by omega)
                      obtain ⟨ub, hub⟩ : ∃ ub, u.drop 8 = ub := ⟨_, rfl⟩
                      rw [hub] at hsb hrb
                      obtain ⟨Ac, hsc, hrc⟩ := run_drop hru 16 16 rfl (by omega)
                      obtain ⟨uc, huc⟩ : ∃ uc, u.drop 16 = uc := ⟨_, rfl⟩
                      rw [huc] at hsc hrc
                      obtain ⟨Ad, hsd, hrd⟩ := run_drop hru 24 24 rfl (by omega)
                      obtain ⟨ud, hud⟩ : ∃ ud, u.drop 24 = ud := ⟨_, rfl⟩
                      rw [hud] at hsd hrd
                      have zub : ub.length + 8 = u.length := by rw [← hub, List.length_drop]; omega
                      have zuc : uc.length + 16 = u.length := by rw [← huc, List.length_drop]; omega
                      have zud : ud.length + 24 = u.length := by rw [← hud, List.length_drop]; omega
                      obtain ⟨B0, hB0⟩ : ∃ B0, Lib.leNat (u.take 8) = B0 := ⟨_, rfl⟩
                      obtain ⟨B1, hB1⟩ : ∃ B1, Lib.leNat (ub.take 8) = B1 := ⟨_, rfl⟩
                      obtain ⟨B2, hB2⟩ : ∃ B2, Lib.leNat (uc.take 8) = B2 := ⟨_, rfl⟩
                      obtain ⟨B3, hB3⟩ : ∃ B3, Lib.leNat (ud.take 8) = B3 := ⟨_, rfl⟩
                      have lB0 : B0 < 18446744073709551616 := hB0 ▸ word_lt' u
                      have lB1 : B1 < 18446744073709551616 := hB1 ▸ word_lt' ub
                      have lB2 : B2 < 18446744073709551616 := hB2 ▸ word_lt' uc
                      have lB3 : B3 < 18446744073709551616 := hB3 ▸ word_lt' ud
                      have cQ0 : ∀ q, Calls Tryd.prog 90 #[.slice Au u.length u.length] (wr.drewN q) fun e w' => e = .returned (.int .u64 B0) ∧ ∃ q', w' = (wr.drewN q).drewN q' := fun q => by rw [← hB0]; exact word_row hru (by omega) (below_drewNv hbu q) _ _ rfl
                      have cQ1 : ∀ q, Calls Tryd.prog 90 #[.slice Ab ub.length ub.length] (wr.drewN q) fun e w' => e = .returned (.int .u64 B1) ∧ ∃ q', w' = (wr.drewN q).drewN q' := fun q => by rw [← hB1]; exact word_row hrb (by omega) (below_drewNv hbu q) _ _ rfl
                      have cQ2 : ∀ q, Calls Tryd.prog 90 #[.slice Ac uc.length uc.length] (wr.drewN q) fun e w' => e = .returned (.int .u64 B2) ∧ ∃ q', w' = (wr.drewN q).drewN q' := fun q => by rw [← hB2]; exact word_row hrc (by omega) (below_drewNv hbu q) _ _ rfl
                      have cQ3 : ∀ q, Calls Tryd.prog 90 #[.slice Ad ud.length ud.length] (wr.drewN q) fun e w' => e = .returned (.int .u64 B3) ∧ ∃ q', w' = (wr.drewN q).drewN q' := fun q => by rw [← hB3]; exact word_row hrd (by omega) (below_drewNv hbu q) _ _ rfl
                      have CQ0 := @Lib.hid _ @cQ0
                      have CQ1 := @Lib.hid _ @cQ1
                      have CQ2 := @Lib.hid _ @cQ2
                      have CQ3 := @Lib.hid _ @cQ3
                      have kB0 := ascL_word (l := u) (by omega)
                      have kB1 := ascL_word (l := ub) (by omega)
                      have kB2 := ascL_word (l := uc) (by omega)
                      have kB3 := ascL_word (l := ud) (by omega)
                      rw [hB0] at kB0
                      rw [hB1] at kB1
                      rw [hB2] at kB2
                      rw [hB3] at kB3
                      have ho1 : bits .or .u64 (B0 : Int) (B1 : Int) = ((B0 ||| B1 : Nat) : Int) := u64_or_nat B0 B1 lB0 lB1
                      have ho2 : bits .or .u64 (B2 : Int) (B3 : Int) = ((B2 ||| B3 : Nat) : Int) := u64_or_nat B2 B3 lB2 lB3
                      have lo1 : B0 ||| B1 < 18446744073709551616 := Nat.or_lt_two_pow (n := 64) lB0 lB1
                      have lo2 : B2 ||| B3 < 18446744073709551616 := Nat.or_lt_two_pow (n := 64) lB2 lB3
                      have ho3 : bits .or .u64 ((B0 ||| B1 : Nat) : Int) ((B2 ||| B3 : Nat) : Int) = (((B0 ||| B1) ||| (B2 ||| B3) : Nat) : Int) := u64_or_nat _ _ lo1 lo2
                      have lo3 : (B0 ||| B1) ||| (B2 ||| B3) < 18446744073709551616 := Nat.or_lt_two_pow (n := 64) lo1 lo2
                      have hand3 : bits .and .u64 (((B0 ||| B1) ||| (B2 ||| B3) : Nat) : Int) 9259542123273814144 = ((((B0 ||| B1) ||| (B2 ||| B3)) &&& 9259542123273814144 : Nat) : Int) := u64_and_nat _ 9259542123273814144 lo3 (by omega)
                      have k3 : ((B0 ||| B1) ||| (B2 ||| B3)) &&& 9259542123273814144 = 0 → AscL u 32 := fun h0' => by
                        obtain ⟨e01, e23⟩ := (Lib.or_mask _ _ _).1 h0'
                        obtain ⟨e0, e1⟩ := (Lib.or_mask _ _ _).1 e01
                        obtain ⟨e2, e3⟩ := (Lib.or_mask _ _ _).1 e23
                        have s16 : AscL u 16 := ascL_add (a := 8) (b := 8) (kB0.1 e0) (by rw [hub]; exact kB1.1 e1)
                        have s24 : AscL u 24 := ascL_add (a := 16) (b := 8) s16 (by rw [huc]; exact kB2.1 e2)
                        exact ascL_add (a := 24) (b := 8) s24 (by rw [hud]; exact kB3.1 e3)
                      obtain ⟨P1, hP1⟩ : ∃ P1, B0 ||| B1 = P1 := ⟨_, rfl⟩
                      obtain ⟨P2, hP2⟩ : ∃ P2, B2 ||| B3 = P2 := ⟨_, rfl⟩
                      rw [hP1, hP2] at ho3 hand3 k3
                      rw [hP1] at ho1
                      rw [hP2] at ho2
                      obtain ⟨P3, hP3⟩ : ∃ P3, P1 ||| P2 = P3 := ⟨_, rfl⟩
                      rw [hP3] at ho3 hand3 k3
                      obtain ⟨Y3, hY3⟩ : ∃ Y3, P3 &&& 9259542123273814144 = Y3 := ⟨_, rfl⟩
                      rw [hY3] at hand3 k3
                      clear kB0 kB1 kB2 kB3 lo1 lo2 lo3 hP1 hP2 hP3 hY3 cQ0 cQ1 cQ2 cQ3 lB0 lB1 lB2 lB3 hB0 hB1 hB2 hB3 hub huc hud zub zuc zud
                      by_cases hz3 : Y3 = 0
                      · have hz3b : ((Y3 : Int) == 0) = true := by simp [hz3]
                        have a32 := k3 hz3
                        obtain ⟨Au2, hsu2, hru2⟩ := run_drop hru 32 32 rfl (by omega)
                        obtain ⟨u2, hu2⟩ : ∃ u2, u.drop 32 = u2 := ⟨_, rfl⟩
                        rw [hu2] at hsu2 hru2
                        have ZU := Lib.hid (show u2.length + 32 = u.length by rw [← hu2, List.length_drop]; omega)
                        have VU2 := Lib.hid (show Lib.validD u2 = ANS by rw [← hu2, ascL_skip a32]; exact VU.out)
                        clear k3 a32 hu2 hz3
                        go_wp2_with fail
                        go_quiet (with_reducible (first | exact Calls.quiet_of (CQ0.out _) | exact Calls.quiet_of (CQ1.out _) | exact Calls.quiet_of (CQ2.out _) | exact Calls.quiet_of (CQ3.out _)))
                        go_wp2_with fail
                        go_roundg g3
                        case measure => omega
                        case rel => exact ⟨below_drewNv hbu _, Au2, u2, rfl, hru2, VU2.out, by have := ZU.out; omega, by have := ZU.out; omega⟩
                      · have hz3b : ((Y3 : Int) == 0) = false := by simp; omega
                        clear k3 hz3
                        go_wp2_with fail
                        go_quiet (with_reducible (first | exact Calls.quiet_of (CQ0.out _) | exact Calls.quiet_of (CQ1.out _) | exact Calls.quiet_of (CQ2.out _) | exact Calls.quiet_of (CQ3.out _)))
                        go_wp2_with fail
                        go_roundg g'
                        case measure => omega
                        case rel => exact ⟨below_drewNv hbu _, Au, u, rfl, hru, VU.out, by omega, by omega⟩
                    · have c32b : decide ((32 : Int) < (u.length : Int)) = false := decide_eq_false (by omega)
                      go_wp2_with fail
                      go_quiet (fail)
                      go_wp2_with fail
                      go_roundg g'
                      case measure => omega
                      case rel => exact ⟨below_drewNv hbu _, Au, u, rfl, hru, VU.out, by omega, by omega⟩
                · have hz2b : ((Y2 : Int) == 0) = false := by simp; omega
                  clear k2 hz2
                  go_quiet (with_reducible (first | exact Calls.quiet_of (CQ2.out _) | exact Calls.quiet_of (CQ3.out _)))
                  go_wp2_with fail
                  go_roundg g'
                  case measure => omega
                  case rel => exact ⟨below_drewNv hb1 _, A2, l2, rfl, hr2, V2.out, by have := Z1'.out; have := Z2.out; omega, by have := Z1'.out; have := Z2.out; omega⟩
              · have c16b : decide ((16 : Int) < (l2.length : Int)) = false := decide_eq_false (by omega)
                go_quiet (fail)
                go_wp2_with fail
                go_roundg g'
                case measure => omega
                case rel => exact ⟨below_drewNv hb1 _, A2, l2, rfl, hr2, V2.out, by have := Z1'.out; have := Z2.out; omega, by have := Z1'.out; have := Z2.out; omega⟩
            · have hz1b : ((Z1 : Int) == 0) = false := by simp; omega
              clear k1 hz1
              go_wp2_with fail
              refine (cW1 _ hbw).mono ?_
              rintro e W1 ⟨rfl, q1, rfl⟩
              go_wp2_with fail
              go_roundg g'
              case measure => omega
              case rel => exact ⟨below_drewNv hbw q1, A1, l1, rfl, hr1, V1.out, by have := Z1'.out; omega, by have := Z1'.out; omega⟩
          · have c8z : ¬ ((8 : Int) < (l1.length : Int)) := by omega
            go_wp2_with fail
            go_roundg g'
            case measure => omega
            case rel => exact ⟨hbw, A1, l1, rfl, hr1, V1.out, by have := Z1'.out; omega, by have := Z1'.out; omega⟩
      · have hge : 128 ≤ x0.toNat := by omega
        have hascz : ¬ ((x0.toNat : Int) < 128) := by omega
        obtain ⟨x1, hx1⟩ : ∃ x1, l.getD 1 0 = x1 := ⟨_, rfl⟩
        obtain ⟨x2, hx2⟩ : ∃ x2, l.getD 2 0 = x2 := ⟨_, rfl⟩
        obtain ⟨x3, hx3⟩ : ∃ x3, l.getD 3 0 = x3 := ⟨_, rfl⟩
        have c1 : 1 < l.length → ∀ O, (wr.alloc O).cell? ⟨b, o + 1, none⟩ = some (.int .u8 x1.toNat) := fun h O => by rw [← hx1]; exact below_cell (hbw.alloc hbw.size O) (hc 1 h)
        have c2 : 2 < l.length → ∀ O, (wr.alloc O).cell? ⟨b, o + 2, none⟩ = some (.int .u8 x2.toNat) := fun h O => by rw [← hx2]; exact below_cell (hbw.alloc hbw.size O) (hc 2 h)
        have c3 : 3 < l.length → ∀ O, (wr.alloc O).cell? ⟨b, o + 3, none⟩ = some (.int .u8 x3.toNat) := fun h O => by rw [← hx3]; exact below_cell (hbw.alloc hbw.size O) (hc 3 h)
        have l1 := x1.toNat_lt; have l2 := x2.toNat_lt; have l3 := x3.toNat_lt
        have hne : l ≠ [] := fun h => by rw [h] at h0; simp at h0
        have hlead := Lib.validD_lead l hne (by rw [HX0.out]; exact hge)
        rw [HX0.out, hx1, hx2, hx3, HV.out] at hlead
        have hTr : Tabs wr := HT.out.keeps (Keeps.of_below hbw (Old w) fun _ _ h => h) (World.block_lt_of_cell? w _ (HT.out.1 0 (by omega))) (World.block_lt_of_cell? w _ (HT.out.2 0 (by omega)).1)
        have hc0 := hTr.1 x0.toNat hx0lt
        have hXlt : Lib.firstT x0.toNat < 256 := by rcases Lib.firstT_cases x0.toNat with h | h | h | h | h | h | h | h | h <;> omega
        obtain ⟨X, hX⟩ : ∃ X, Lib.firstT x0.toNat = X := ⟨_, rfl⟩
        rw [hX] at hc0 hXlt hlead
        have h7 := and7 ⟨X, hXlt⟩
        simp only at h7
        have ha0 : wr.cell? ⟨1, X / 16 * 2, none⟩ = some (.int .u8 (Lib.accLo (X / 16))) := by rw [Nat.mul_comm]; exact (hTr.2 (X / 16) (by omega)).1
        have ha1 : wr.cell? ⟨1, X / 16 * 2 + 1, none⟩ = some (.int .u8 (Lib.accHi (X / 16))) := by rw [Nat.mul_comm]; exact (hTr.2 (X / 16) (by omega)).2
        obtain ⟨LO, hLO⟩ : ∃ LO, Lib.accLo (X / 16) = LO := ⟨_, rfl⟩
        obtain ⟨HI, hHI⟩ : ∃ HI, Lib.accHi (X / 16) = HI := ⟨_, rfl⟩
        rw [hLO] at ha0 hlead
        rw [hHI] at ha1 hlead
        obtain ⟨SZ, hSZ⟩ : ∃ SZ, X % 8 = SZ := ⟨_, rfl⟩
        rw [hSZ] at hlead
        clear hTr hX hLO hHI hne hx1 hx2 hx3 hc
        by_cases s2 : SZ = 2
        · as_aux_lemma =>
            subst s2
            have hSZz : (X : Int) % 8 = 2 := by omega
            simp only [Lib.checkN, Nat.reduceEqDiff, if_true, if_false] at hlead
            have HL := Lib.hid hlead
            clear hlead
            go_upto_region 18 with fail
            go_cut [103] from 85 to 103 (fun c wx => c = .bool (decide (l.length < 2 ∨ x1.toNat < LO ∨ HI < x1.toNat)) ∧ Below w.heap.size w wx)
            case first =>
              by_cases q0 : l.length < 2
              · have q0z : (l.length : Int) < 2 := by omega
                have q0d : decide ((l.length : Int) < 2) = true := decide_eq_true q0z
                go_quiet (fail)
                go_wp2_with fail
                go_meet
                exact ⟨congrArg Value.bool (decide_eq_true (p := l.length < 2 ∨ x1.toNat < LO ∨ HI < x1.toNat) (by omega)).symm, below_drewNv (hbw.alloc hbw.size _) _⟩
              · have q0z : ¬ ((l.length : Int) < 2) := by omega
                have hz1 : (1 : Int) < (l.length : Int) := by omega
                have d1 := c1 (by omega)
                by_cases q1 : x1.toNat < LO
                · have q1z : (x1.toNat : Int) < (LO : Int) := by omega
                  go_quiet (fail)
                  go_wp2_with fail
                  go_meet
                  exact ⟨congrArg Value.bool (decide_eq_true (p := l.length < 2 ∨ x1.toNat < LO ∨ HI < x1.toNat) (by omega)).symm, below_drewNv (hbw.alloc hbw.size _) _⟩
                · have q1z : ¬ ((x1.toNat : Int) < (LO : Int)) := by omega
                  by_cases q2 : HI < x1.toNat
                  · have q2z : (HI : Int) < (x1.toNat : Int) := by omega
                    go_quiet (fail)
                    go_wp2_with fail
                    go_meet
                    exact ⟨congrArg Value.bool (decide_eq_true (p := l.length < 2 ∨ x1.toNat < LO ∨ HI < x1.toNat) (by omega)).symm, below_drewNv (hbw.alloc hbw.size _) _⟩
                  · have q2z : ¬ ((HI : Int) < (x1.toNat : Int)) := by omega
                    go_quiet (fail)
                    go_wp2_with fail
                    go_meet
                    exact ⟨congrArg Value.bool (decide_eq_false (p := l.length < 2 ∨ x1.toNat < LO ∨ HI < x1.toNat) (by omega)).symm, below_drewNv (hbw.alloc hbw.size _) _⟩
            case rest =>
              obtain ⟨rfl, hbc⟩ := hcut
              have hlead := HL.out
              by_cases hb : l.length < 2 ∨ x1.toNat < LO ∨ HI < x1.toNat
              · have hbd : decide (l.length < 2 ∨ x1.toNat < LO ∨ HI < x1.toNat) = true := decide_eq_true hb
                rw [if_pos hb] at hlead
                subst hlead
                go_wp2_with fail
                go_ret
                exact ⟨rfl, hbc⟩
              · have hbd : decide (l.length < 2 ∨ x1.toNat < LO ∨ HI < x1.toNat) = false := decide_eq_false hb
                rw [if_neg hb] at hlead
                obtain ⟨A2, hs2, hr2⟩ := run_drop hr 2 2 rfl (by omega)
                have VL := Lib.hid (show Lib.validD (l.drop 2) = ANS from hlead.symm)
                obtain ⟨l2, hl2⟩ : ∃ l2, l.drop 2 = l2 := ⟨_, rfl⟩
                rw [hl2] at hs2 hr2 VL
                have ZL := Lib.hid (show l2.length + 2 = l.length by rw [← hl2, List.length_drop]; omega)
                clear hlead hl2
                go_wp2_with fail
                go_roundg g'
                case measure => omega
                case rel => exact ⟨hbc, A2, l2, rfl, hr2, VL.out, by have := ZL.out; omega, by have := ZL.out; omega⟩
        by_cases s3 : SZ = 3
        · as_aux_lemma =>
            subst s3
            have hSZz : (X : Int) % 8 = 3 := by omega
            simp only [Lib.checkN, Nat.reduceEqDiff, if_true, if_false] at hlead
            have HL := Lib.hid hlead
            clear hlead
            go_upto_region 22 with fail
            go_cut [138] from 108 to 138 (fun c wx => c = .bool (decide (l.length < 3 ∨ x1.toNat < LO ∨ HI < x1.toNat ∨ x2.toNat < 128 ∨ 191 < x2.toNat)) ∧ Below w.heap.size w wx)
            case first =>
              by_cases q0 : l.length < 3
              · have q0z : (l.length : Int) < 3 := by omega
                have q0d : decide ((l.length : Int) < 3) = true := decide_eq_true q0z
                go_quiet (fail)
                go_wp2_with fail
                go_meet
                exact ⟨congrArg Value.bool (decide_eq_true (p := l.length < 3 ∨ x1.toNat < LO ∨ HI < x1.toNat ∨ x2.toNat < 128 ∨ 191 < x2.toNat) (by omega)).symm, below_drewNv (hbw.alloc hbw.size _) _⟩
              · have q0z : ¬ ((l.length : Int) < 3) := by omega
                have hz1 : (1 : Int) < (l.length : Int) := by omega
                have d1 := c1 (by omega)
                have hz2 : (2 : Int) < (l.length : Int) := by omega
                have d2 := c2 (by omega)
                by_cases q1 : x1.toNat < LO
                · have q1z : (x1.toNat : Int) < (LO : Int) := by omega
                  go_quiet (fail)
                  go_wp2_with fail
                  go_meet
                  exact ⟨congrArg Value.bool (decide_eq_true (p := l.length < 3 ∨ x1.toNat < LO ∨ HI < x1.toNat ∨ x2.toNat < 128 ∨ 191 < x2.toNat) (by omega)).symm, below_drewNv (hbw.alloc hbw.size _) _⟩
                · have q1z : ¬ ((x1.toNat : Int) < (LO : Int)) := by omega
                  by_cases q2 : HI < x1.toNat
                  · have q2z : (HI : Int) < (x1.toNat : Int) := by omega
                    go_quiet (fail)
                    go_wp2_with fail
                    go_meet
                    exact ⟨congrArg Value.bool (decide_eq_true (p := l.length < 3 ∨ x1.toNat < LO ∨ HI < x1.toNat ∨ x2.toNat < 128 ∨ 191 < x2.toNat) (by omega)).symm, below_drewNv (hbw.alloc hbw.size _) _⟩
                  · have q2z : ¬ ((HI : Int) < (x1.toNat : Int)) := by omega
                    by_cases q3 : x2.toNat < 128
                    · have q3z : (x2.toNat : Int) < 128 := by omega
                      go_quiet (fail)
                      go_wp2_with fail
                      go_meet
                      exact ⟨congrArg Value.bool (decide_eq_true (p := l.length < 3 ∨ x1.toNat < LO ∨ HI < x1.toNat ∨ x2.toNat < 128 ∨ 191 < x2.toNat) (by omega)).symm, below_drewNv (hbw.alloc hbw.size _) _⟩
                    · have q3z : ¬ ((x2.toNat : Int) < 128) := by omega
                      by_cases q4 : 191 < x2.toNat
                      · have q4z : (191 : Int) < (x2.toNat : Int) := by omega
                        go_quiet (fail)
                        go_wp2_with fail
                        go_meet
                        exact ⟨congrArg Value.bool (decide_eq_true (p := l.length < 3 ∨ x1.toNat < LO ∨ HI < x1.toNat ∨ x2.toNat < 128 ∨ 191 < x2.toNat) (by omega)).symm, below_drewNv (hbw.alloc hbw.size _) _⟩
                      · have q4z : ¬ ((191 : Int) < (x2.toNat : Int)) := by omega
                        go_quiet (fail)
                        go_wp2_with fail
                        go_meet
                        exact ⟨congrArg Value.bool (decide_eq_false (p := l.length < 3 ∨ x1.toNat < LO ∨ HI < x1.toNat ∨ x2.toNat < 128 ∨ 191 < x2.toNat) (by omega)).symm, below_drewNv (hbw.alloc hbw.size _) _⟩
            case rest =>
              obtain ⟨rfl, hbc⟩ := hcut
              have hlead := HL.out
              by_cases hb : l.length < 3 ∨ x1.toNat < LO ∨ HI < x1.toNat ∨ x2.toNat < 128 ∨ 191 < x2.toNat
              · have hbd : decide (l.length < 3 ∨ x1.toNat < LO ∨ HI < x1.toNat ∨ x2.toNat < 128 ∨ 191 < x2.toNat) = true := decide_eq_true hb
                rw [if_pos hb] at hlead
                subst hlead
                go_wp2_with fail
                go_ret
                exact ⟨rfl, hbc⟩
              · have hbd : decide (l.length < 3 ∨ x1.toNat < LO ∨ HI < x1.toNat ∨ x2.toNat < 128 ∨ 191 < x2.toNat) = false := decide_eq_false hb
                rw [if_neg hb] at hlead
                obtain ⟨A2, hs2, hr2⟩ := run_drop hr 3 3 rfl (by omega)
                have VL := Lib.hid (show Lib.validD (l.drop 3) = ANS from hlead.symm)
                obtain ⟨l2, hl2⟩ : ∃ l2, l.drop 3 = l2 := ⟨_, rfl⟩
                rw [hl2] at hs2 hr2 VL
                have ZL := Lib.hid (show l2.length + 3 = l.length by rw [← hl2, List.length_drop]; omega)
                clear hlead hl2
                go_wp2_with fail
                go_roundg g'
                case measure => omega
                case rel => exact ⟨hbc, A2, l2, rfl, hr2, VL.out, by have := ZL.out; omega, by have := ZL.out; omega⟩
        by_cases s4 : SZ = 4
        · as_aux_lemma =>
            subst s4
            have hSZz : (X : Int) % 8 = 4 := by omega
            simp only [Lib.checkN, Nat.reduceEqDiff, if_true, if_false] at hlead
            have HL := Lib.hid hlead
            clear hlead
            go_upto_region 26 with fail
            go_cut [185] from 143 to 185 (fun c wx => c = .bool (decide (l.length < 4 ∨ x1.toNat < LO ∨ HI < x1.toNat ∨ x2.toNat < 128 ∨ 191 < x2.toNat ∨ x3.toNat < 128 ∨ 191 < x3.toNat)) ∧ Below w.heap.size w wx)
            case first =>
              by_cases q0 : l.length < 4
              · have q0z : (l.length : Int) < 4 := by omega
                have q0d : decide ((l.length : Int) < 4) = true := decide_eq_true q0z
                go_quiet (fail)
                go_wp2_with fail
                go_meet
                exact ⟨congrArg Value.bool (decide_eq_true (p := l.length < 4 ∨ x1.toNat < LO ∨ HI < x1.toNat ∨ x2.toNat < 128 ∨ 191 < x2.toNat ∨ x3.toNat < 128 ∨ 191 < x3.toNat) (by omega)).symm, below_drewNv (hbw.alloc hbw.size _) _⟩
              · have q0z : ¬ ((l.length : Int) < 4) := by omega
                have hz1 : (1 : Int) < (l.length : Int) := by omega
                have d1 := c1 (by omega)
                have hz2 : (2 : Int) < (l.length : Int) := by omega
                have d2 := c2 (by omega)
                have hz3 : (3 : Int) < (l.length : Int) := by omega
                have d3 := c3 (by omega)
                by_cases q1 : x1.toNat < LO
                · have q1z : (x1.toNat : Int) < (LO : Int) := by omega
                  go_quiet (fail)
                  go_wp2_with fail
                  go_meet
                  exact ⟨congrArg Value.bool (decide_eq_true (p := l.length < 4 ∨ x1.toNat < LO ∨ HI < x1.toNat ∨ x2.toNat < 128 ∨ 191 < x2.toNat ∨ x3.toNat < 128 ∨ 191 < x3.toNat) (by omega)).symm, below_drewNv (hbw.alloc hbw.size _) _⟩
                · have q1z : ¬ ((x1.toNat : Int) < (LO : Int)) := by omega
                  by_cases q2 : HI < x1.toNat
                  · have q2z : (HI : Int) < (x1.toNat : Int) := by omega
                    go_quiet (fail)
                    go_wp2_with fail
                    go_meet
                    exact ⟨congrArg Value.bool (decide_eq_true (p := l.length < 4 ∨ x1.toNat < LO ∨ HI < x1.toNat ∨ x2.toNat < 128 ∨ 191 < x2.toNat ∨ x3.toNat < 128 ∨ 191 < x3.toNat) (by omega)).symm, below_drewNv (hbw.alloc hbw.size _) _⟩
                  · have q2z : ¬ ((HI : Int) < (x1.toNat : Int)) := by omega
                    by_cases q3 : x2.toNat < 128
                    · have q3z : (x2.toNat : Int) < 128 := by omega
                      go_quiet (fail)
                      go_wp2_with fail
                      go_meet
                      exact ⟨congrArg Value.bool (decide_eq_true (p := l.length < 4 ∨ x1.toNat < LO ∨ HI < x1.toNat ∨ x2.toNat < 128 ∨ 191 < x2.toNat ∨ x3.toNat < 128 ∨ 191 < x3.toNat) (by omega)).symm, below_drewNv (hbw.alloc hbw.size _) _⟩
                    · have q3z : ¬ ((x2.toNat : Int) < 128) := by omega
                      by_cases q4 : 191 < x2.toNat
                      · have q4z : (191 : Int) < (x2.toNat : Int) := by omega
                        go_quiet (fail)
                        go_wp2_with fail
                        go_meet
                        exact ⟨congrArg Value.bool (decide_eq_true (p := l.length < 4 ∨ x1.toNat < LO ∨ HI < x1.toNat ∨ x2.toNat < 128 ∨ 191 < x2.toNat ∨ x3.toNat < 128 ∨ 191 < x3.toNat) (by omega)).symm, below_drewNv (hbw.alloc hbw.size _) _⟩
                      · have q4z : ¬ ((191 : Int) < (x2.toNat : Int)) := by omega
                        by_cases q5 : x3.toNat < 128
                        · have q5z : (x3.toNat : Int) < 128 := by omega
                          go_quiet (fail)
                          go_wp2_with fail
                          go_meet
                          exact ⟨congrArg Value.bool (decide_eq_true (p := l.length < 4 ∨ x1.toNat < LO ∨ HI < x1.toNat ∨ x2.toNat < 128 ∨ 191 < x2.toNat ∨ x3.toNat < 128 ∨ 191 < x3.toNat) (by omega)).symm, below_drewNv (hbw.alloc hbw.size _) _⟩
                        · have q5z : ¬ ((x3.toNat : Int) < 128) := by omega
                          by_cases q6 : 191 < x3.toNat
                          · have q6z : (191 : Int) < (x3.toNat : Int) := by omega
                            go_quiet (fail)
                            go_wp2_with fail
                            go_meet
                            exact ⟨congrArg Value.bool (decide_eq_true (p := l.length < 4 ∨ x1.toNat < LO ∨ HI < x1.toNat ∨ x2.toNat < 128 ∨ 191 < x2.toNat ∨ x3.toNat < 128 ∨ 191 < x3.toNat) (by omega)).symm, below_drewNv (hbw.alloc hbw.size _) _⟩
                          · have q6z : ¬ ((191 : Int) < (x3.toNat : Int)) := by omega
                            go_quiet (fail)
                            go_wp2_with fail
                            go_meet
                            exact ⟨congrArg Value.bool (decide_eq_false (p := l.length < 4 ∨ x1.toNat < LO ∨ HI < x1.toNat ∨ x2.toNat < 128 ∨ 191 < x2.toNat ∨ x3.toNat < 128 ∨ 191 < x3.toNat) (by omega)).symm, below_drewNv (hbw.alloc hbw.size _) _⟩
            case rest =>
              obtain ⟨rfl, hbc⟩ := hcut
              have hlead := HL.out
              by_cases hb : l.length < 4 ∨ x1.toNat < LO ∨ HI < x1.toNat ∨ x2.toNat < 128 ∨ 191 < x2.toNat ∨ x3.toNat < 128 ∨ 191 < x3.toNat
              · have hbd : decide (l.length < 4 ∨ x1.toNat < LO ∨ HI < x1.toNat ∨ x2.toNat < 128 ∨ 191 < x2.toNat ∨ x3.toNat < 128 ∨ 191 < x3.toNat) = true := decide_eq_true hb
                rw [if_pos hb] at hlead
                subst hlead
                go_wp2_with fail
                go_ret
                exact ⟨rfl, hbc⟩
              · have hbd : decide (l.length < 4 ∨ x1.toNat < LO ∨ HI < x1.toNat ∨ x2.toNat < 128 ∨ 191 < x2.toNat ∨ x3.toNat < 128 ∨ 191 < x3.toNat) = false := decide_eq_false hb
                rw [if_neg hb] at hlead
                obtain ⟨A2, hs2, hr2⟩ := run_drop hr 4 4 rfl (by omega)
                have VL := Lib.hid (show Lib.validD (l.drop 4) = ANS from hlead.symm)
                obtain ⟨l2, hl2⟩ : ∃ l2, l.drop 4 = l2 := ⟨_, rfl⟩
                rw [hl2] at hs2 hr2 VL
                have ZL := Lib.hid (show l2.length + 4 = l.length by rw [← hl2, List.length_drop]; omega)
                clear hlead hl2
                go_wp2_with fail
                go_roundg g'
                case measure => omega
                case rel => exact ⟨hbc, A2, l2, rfl, hr2, VL.out, by have := ZL.out; omega, by have := ZL.out; omega⟩
        have e2 : ((X : Int) % 8 == 2) = false := by simp; omega
        have e3 : ((X : Int) % 8 == 3) = false := by simp; omega
        have e4 : ((X : Int) % 8 == 4) = false := by simp; omega
        unfold Lib.checkN at hlead
        rw [if_neg s2, if_neg s3, if_neg s4] at hlead
        subst hlead
        go_wp2_with fail
        go_ret
        exact ⟨rfl, hbw.alloc hbw.size _⟩
    · go_wp2_with fail
      go_ret
      obtain rfl : l = [] := List.eq_nil_of_length_eq_zero (by omega)
      have := HV.out
      exact ⟨by rw [← this]; rfl, hbw⟩
end Go.Proofs.YtljdfainnmpjnaaDoor

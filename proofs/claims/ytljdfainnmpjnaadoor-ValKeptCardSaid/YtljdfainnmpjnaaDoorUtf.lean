/- The reference's test whether bytes are UTF-8: what it computes, and that it does. -/
import Derived.Test.YtljdfainnmpjnaaDoorMem
import Derived.Deep.DeepCutAuto
import Derived.Deep.CutBlock
import Derived.Deep.LoopGhost
namespace Go.Proofs.YtljdfainnmpjnaaDoor
open Go.RowKit

/-- The size of an encoding by its first byte, the bits of that byte, the least number of that size. -/
def utfHead (c : Int) : Option (Nat × Int × Int) :=
  if c < 128 then some (1, c, 0) else if 192 ≤ c ∧ c < 224 then some (2, c - 192, 128) else if 224 ≤ c ∧ c < 240 then some (3, c - 224, 2048)
  else if 240 ≤ c ∧ c < 248 then some (4, c - 240, 65536) else none
def utfCont : Nat → List UInt8 → Int → Option Int
  | 0, _, v => some v
  | k + 1, d :: r, v => if (d.toNat : Int) < 128 ∨ 192 ≤ (d.toNat : Int) then none else utfCont k r (v * 64 + d.toNat - 128)
  | _ + 1, [], _ => none
def utfGood (v low : Int) : Bool := !(decide (v < low) || (decide (1114111 < v) || (decide (55296 ≤ v) && decide (v ≤ 57343))))
def utfStep : List UInt8 → Option Nat
  | [] => none
  | c :: r => match utfHead c.toNat with
    | none => none
    | some (n, v, low) => if r.length + 1 < n then none else match utfCont (n - 1) r v with
      | none => none
      | some u => if utfGood u low then some n else none
def utfN : Nat → List UInt8 → Bool
  | 0, _ => true
  | m + 1, l => if l = [] then true else match utfStep l with
    | none => false
    | some n => utfN m (l.drop n)
def utfR (l : List UInt8) : Bool := utfN l.length l

theorem utfCont_succ (k : Nat) (d : UInt8) (r : List UInt8) (v : Int) : utfCont (k + 1) (d :: r) v = if (d.toNat : Int) < 128 ∨ 192 ≤ (d.toNat : Int) then none else utfCont k r (v * 64 + d.toNat - 128) := by
  conv => lhs; unfold utfCont
theorem utfCont_zero (r : List UInt8) (v : Int) : utfCont 0 r v = some v := by
  unfold utfCont; rfl
theorem utfHead_1 {c : Int} (h : c < 128) : utfHead c = some (1, c, 0) := by unfold utfHead; rw [if_pos h]
theorem utfHead_2 {c : Int} (h : 192 ≤ c) (h' : c < 224) : utfHead c = some (2, c - 192, 128) := by unfold utfHead; rw [if_neg (by omega), if_pos (by omega)]
theorem utfHead_3 {c : Int} (h : 224 ≤ c) (h' : c < 240) : utfHead c = some (3, c - 224, 2048) := by unfold utfHead; rw [if_neg (by omega), if_neg (by omega), if_pos (by omega)]
theorem utfHead_4 {c : Int} (h : 240 ≤ c) (h' : c < 248) : utfHead c = some (4, c - 240, 65536) := by unfold utfHead; rw [if_neg (by omega), if_neg (by omega), if_neg (by omega), if_pos (by omega)]
theorem utfHead_pos {c : Int} {n : Nat} {v low : Int} (h : utfHead c = some (n, v, low)) (hc : 0 ≤ c) : 1 ≤ n ∧ n ≤ 4 ∧ 0 ≤ v ∧ v < 128 ∧ 0 ≤ low ∧ low ≤ 65536 := by
  by_cases h1 : c < 128
  · rw [utfHead_1 h1] at h; simp only [Option.some.injEq, Prod.mk.injEq] at h; omega
  by_cases h2 : 192 ≤ c ∧ c < 224
  · rw [utfHead_2 h2.1 h2.2] at h; simp only [Option.some.injEq, Prod.mk.injEq] at h; omega
  by_cases h3 : 224 ≤ c ∧ c < 240
  · rw [utfHead_3 h3.1 h3.2] at h; simp only [Option.some.injEq, Prod.mk.injEq] at h; omega
  by_cases h4 : 240 ≤ c ∧ c < 248
  · rw [utfHead_4 h4.1 h4.2] at h; simp only [Option.some.injEq, Prod.mk.injEq] at h; omega
  unfold utfHead at h
  rw [if_neg h1, if_neg h2, if_neg h3, if_neg h4] at h
  cases h
theorem utfStep_pos {l : List UInt8} {n : Nat} (h : utfStep l = some n) : 1 ≤ n ∧ n ≤ l.length := by
  cases l with
  | nil => cases h
  | cons c r =>
    unfold utfStep at h
    dsimp only at h
    split at h
    · cases h
    · rename_i m v low hm
      have := utfHead_pos hm (by omega)
      split at h
      · cases h
      · split at h
        · cases h
        · split at h
          · simp at h; subst h; simp; omega
          · cases h
theorem utfN_enough : ∀ (m k : Nat) (l : List UInt8), l.length ≤ m → l.length ≤ k → utfN m l = utfN k l := by
  intro m
  induction m with
  | zero =>
    intro k l hm _
    obtain rfl : l = [] := List.eq_nil_of_length_eq_zero (by omega)
    cases k <;> simp [utfN]
  | succ m ih =>
    intro k l hm hk
    cases l with
    | nil => cases k <;> simp [utfN]
    | cons c r =>
      cases k with
      | zero => simp at hk
      | succ k =>
        simp only [utfN, reduceCtorEq, if_false]
        cases hs : utfStep (c :: r) with
        | none => rfl
        | some n =>
          have := utfStep_pos hs
          simp only [List.length_cons] at this hm hk
          exact ih k _ (by simp only [List.length_drop, List.length_cons]; omega) (by simp only [List.length_drop, List.length_cons]; omega)
theorem utfR_step {l : List UInt8} (h : l ≠ []) : utfR l = match utfStep l with | none => false | some n => utfR (l.drop n) := by
  unfold utfR
  obtain ⟨c, r, rfl⟩ := List.exists_cons_of_ne_nil h
  rw [List.length_cons, utfN, if_neg h]
  cases hs : utfStep (c :: r) with
  | none => rfl
  | some n =>
    have := utfStep_pos hs
    exact utfN_enough _ _ _ (by simp only [List.length_drop, List.length_cons] at *; omega) (Nat.le_refl _)

set_option maxRecDepth 100000 in
set_option maxHeartbeats 2000000 in
theorem utf_any (b : List UInt8) (A : Option Addr) (cb : Nat) (w : World) (hl : Len b.length cb) (h : BRow0 w A b) :
    Calls Tryd.prog 73 #[.slice A b.length cb] w fun e w' => e = .returned (.bool (utfR b)) ∧ w = w' := by
  obtain ⟨hl1, hl2, hl3⟩ := hl
  obtain ⟨R, hR⟩ : ∃ R, utfR b = R := ⟨_, rfl⟩
  rw [hR]
  have HR := Lib.hid hR
  clear hR
  go_enter Tryd.func73, Tryd.ntmps73
  go_wp2_with fail
  go_loopg [3] b.length (fun g t3 wr => ∃ i : Nat, i ≤ b.length ∧ t3 = .int .i64 i ∧ R = utfR (b.drop i) ∧ b.length ≤ i + g ∧ w = wr)
  case atStart => exact ⟨0, by omega, rfl, HR.out.symm, by omega, rfl⟩
  case round =>
    obtain ⟨i, hi, rfl, hw, hg, rfl⟩ := hrel
    by_cases hlt : i < b.length
    · obtain ⟨bb, o, rfl, _, _, hc⟩ := h.at (by omega)
      have HC := Lib.hid hc
      have hci := hc i hlt
      have hgi : b.getD i 0 = b[i] := getD_at hlt
      rw [hgi] at hci
      have hne : b.drop i ≠ [] := fun he => by have := congrArg List.length he; simp only [List.length_drop, List.length_nil] at this; omega
      rw [utfR_step hne, List.drop_eq_getElem_cons hlt] at hw
      have HW := Lib.hid hw
      have hcr : (b[i].toNat : Int) < 256 := by have := b[i].toNat_lt; omega
      have hdr := List.drop_eq_getElem_cons hlt
      have HDR := Lib.hid hdr
      clear hw hne hgi hc hdr
      generalize b[i] = c at hci HW hcr HDR
      obtain ⟨C, hC⟩ : ∃ C : Int, (c.toNat : Int) = C := ⟨_, rfl⟩
      have hC0 : 0 ≤ C := by omega
      have hw := HW.out
      unfold utfStep at hw
      dsimp only at hw
      rw [hC] at hw hci hcr
      have HW := Lib.hid hw
      clear hw hC
      go_upto_block 2 with fail
      go_cut [5, 6, 7] (fun s5 s6 s7 wc => ∃ (n : Nat) (v low : Int), s5 = .int .i64 n ∧ s6 = .int .i64 v ∧ s7 = .int .i64 low ∧ utfHead C = some (n, v, low) ∧ w = wc)
      case first =>
        by_cases h1 : C < 128
        · go_wp2_with fail
          go_meet
          case rel => exact ⟨1, _, _, rfl, rfl, rfl, utfHead_1 (by omega), rfl⟩
        · by_cases h2 : 192 ≤ C ∧ C < 224
          · obtain ⟨h2a, h2b⟩ := h2
            go_wp2_with fail
            go_meet
            case rel => exact ⟨2, _, _, rfl, rfl, rfl, utfHead_2 (by omega) (by omega), rfl⟩
          · by_cases h3 : 224 ≤ C ∧ C < 240
            · obtain ⟨h3a, h3b⟩ := h3
              go_wp2_with fail
              go_meet
              case rel => exact ⟨3, _, _, rfl, rfl, rfl, utfHead_3 (by omega) (by omega), rfl⟩
            · by_cases h4 : 240 ≤ C ∧ C < 248
              · obtain ⟨h4a, h4b⟩ := h4
                go_wp2_with fail
                go_meet
                case rel => exact ⟨4, _, _, rfl, rfl, rfl, utfHead_4 (by omega) (by omega), rfl⟩
              · have hn : utfHead C = none := by unfold utfHead; rw [if_neg h1, if_neg h2, if_neg h3, if_neg h4]
                have hw := HW.out
                rw [hn] at hw
                dsimp only at hw
                subst hw
                clear hn HW HC HR h
                by_cases h5 : C < 192
                · clear h2 h3 h4
                  go_wp2_with fail
                  go_ret
                  exact ⟨rfl, rfl⟩
                · by_cases h6 : C < 224
                  · exact absurd ⟨by omega, h6⟩ h2
                  · by_cases h7 : C < 240
                    · exact absurd ⟨by omega, h7⟩ h3
                    · have h8 : 248 ≤ C := by omega
                      clear h2 h3 h4
                      go_wp2_with fail
                      go_ret
                      exact ⟨rfl, rfl⟩
      case rest =>
        obtain ⟨n, v, low, rfl, rfl, rfl, hh, rfl⟩ := hcut
        have hp := utfHead_pos hh hC0
        obtain ⟨hn1, hn4, hv0, hv1, hlo0, hlo1⟩ := hp
        have hw := HW.out
        rw [hh] at hw
        dsimp only at hw
        rw [List.length_drop] at hw
        clear hh HW
        by_cases hshort : b.length < i + n
        · rw [if_pos (by omega)] at hw
          dsimp only at hw
          subst hw
          clear HR HC h
          go_wp2_with fail
          go_ret
          exact ⟨rfl, rfl⟩
        · rw [if_neg (by omega)] at hw
          obtain ⟨D, hD⟩ : ∃ D, utfCont (n - 1) (b.drop (i + 1)) v = D := ⟨_, rfl⟩
          rw [hD] at hw
          have HD := Lib.hid hD
          have HW := Lib.hid hw
          clear hw hD HR hci
          go_upto_block 3 with fail
          go_cut [6] (fun s6 wc => ∃ u : Int, s6 = .int .i64 u ∧ D = some u ∧ w = wc)
          case first =>
            go_wp2_with fail
            go_loopg [6, 8] n (fun g s6 s8 wr => ∃ (k : Nat) (u : Int), 1 ≤ k ∧ k ≤ n ∧ s8 = .int .i64 k ∧ s6 = .int .i64 u ∧ 0 ≤ u ∧ ((k = 1 → u < 128) ∧ (k = 2 → u < 8192) ∧ (k = 3 → u < 524288) ∧ (k = 4 → u < 33554432)) ∧ utfCont (n - k) (b.drop (i + k)) u = D ∧ n ≤ k + g ∧ w = wr)
            case atStart => exact ⟨1, v, by omega, by omega, rfl, rfl, hv0, by omega, HD.out, by omega, rfl⟩
            case round =>
              obtain ⟨k, u, hk1, hkn, rfl, rfl, hu0, hu1, hd, hg', rfl⟩ := hrel
              have hu2 : u < 33554432 := by omega
              by_cases hkl : k < n
              · have hik : i + k < b.length := by omega
                have hck := HC.out (i + k) hik
                rw [getD_at hik] at hck
                have hcd : (b[i + k].toNat : Int) < 256 := by have := b[i + k].toNat_lt; omega
                obtain ⟨m, hm⟩ : ∃ m, n - k = m + 1 := ⟨n - k - 1, by omega⟩
                rw [hm, List.drop_eq_getElem_cons hik, utfCont_succ] at hd
                have hm2 : m = n - (k + 1) := by omega
                subst hm2
                clear hm
                generalize hdd : (b[i + k].toNat : Int) = d at hck hcd hd
                have hd0 : 0 ≤ d := by omega
                clear hdd
                have HDD := Lib.hid hd
                by_cases hd1 : d < 128 ∨ 192 ≤ d
                · rw [if_pos hd1] at hd
                  subst hd
                  have hw := HW.out
                  dsimp only at hw
                  subst hw
                  clear HW HD HC h HDD hu1
                  rcases hd1 with hd1 | hd1
                  · go_wp2_with fail
                    go_ret
                    exact ⟨rfl, rfl⟩
                  · have hd2 : 128 ≤ d := by omega
                    go_wp2_with fail
                    go_ret
                    exact ⟨rfl, rfl⟩
                · rw [if_neg hd1] at hd
                  have HD2 := Lib.hid hd
                  have hd2 : 128 ≤ d := by omega
                  have hd3 : d < 192 := by omega
                  have hu3 : (k + 1 = 1 → u * 64 + d - 128 < 128) ∧ (k + 1 = 2 → u * 64 + d - 128 < 8192) ∧ (k + 1 = 3 → u * 64 + d - 128 < 524288) ∧ (k + 1 = 4 → u * 64 + d - 128 < 33554432) := by omega
                  have HU := Lib.hid hu3
                  clear hd hd1 HDD hu1 hu3
                  go_wp2_with fail
                  go_roundg (gk - 1)
                  case measure => omega
                  case rel => exact ⟨k + 1, u * 64 + d - 128, by omega, by omega, by go_num, rfl, by omega, HU.out, HD2.out, by omega, rfl⟩
              · obtain rfl : k = n := by omega
                rw [Nat.sub_self, utfCont_zero] at hd
                have HD2 := Lib.hid hd
                clear hd hu1
                go_wp2_with fail
                go_meet
                case rel => exact ⟨u, rfl, HD2.out.symm, rfl⟩
          case rest =>
            obtain ⟨u, rfl, hDu, rfl⟩ := hcut
            have hw := HW.out
            rw [hDu] at hw
            dsimp only at hw
            clear HW HD HC hDu
            cases hgood : utfGood u low with
            | true =>
              rw [hgood, if_pos rfl] at hw
              dsimp only at hw
              rw [← HDR.out, List.drop_drop] at hw
              have HW := Lib.hid hw
              unfold utfGood at hgood
              simp only [Bool.not_eq_true', Bool.or_eq_false_iff, Bool.and_eq_false_iff, decide_eq_false_iff_not] at hgood
              obtain ⟨g1, g2, g3⟩ := hgood
              have g1 : low ≤ u := by omega
              have g2 : u ≤ 1114111 := by omega
              clear hw
              rcases g3 with g3 | g3
              · have g3 : u < 55296 := by omega
                go_wp2_with fail
                go_roundg (gk - 1)
                case measure => omega
                case rel => exact ⟨i + n, by omega, by go_num, HW.out, by omega, rfl⟩
              · have g3 : 57343 < u := by omega
                have g4 : 55296 ≤ u := by omega
                go_wp2_with fail
                go_roundg (gk - 1)
                case measure => omega
                case rel => exact ⟨i + n, by omega, by go_num, HW.out, by omega, rfl⟩
            | false =>
              rw [hgood, if_neg (by simp)] at hw
              dsimp only at hw
              subst hw
              unfold utfGood at hgood
              simp only [Bool.not_eq_false', Bool.or_eq_true, Bool.and_eq_true, decide_eq_true_eq] at hgood
              by_cases g1 : u < low
              · clear hgood
                go_wp2_with fail
                go_ret
                exact ⟨rfl, rfl⟩
              · have g1 : low ≤ u := by omega
                by_cases g2 : 1114111 < u
                · clear hgood
                  go_wp2_with fail
                  go_ret
                  exact ⟨rfl, rfl⟩
                · have g2 : u ≤ 1114111 := by omega
                  have g3 : 55296 ≤ u := by omega
                  have g4 : u ≤ 57343 := by omega
                  clear hgood
                  go_wp2_with fail
                  go_ret
                  exact ⟨rfl, rfl⟩
    · rw [List.drop_of_length_le (by omega)] at hw
      have hw2 : R = true := by rw [hw]; rfl
      subst hw2
      clear hw HR
      go_wp2_with fail
      go_ret
      exact ⟨rfl, rfl⟩
end Go.Proofs.YtljdfainnmpjnaaDoor

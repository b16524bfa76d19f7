/- The library's plain test of UTF-8 is the reference's. -/
import Derived.Test.YtljdfainnmpjnaaDoorUtf
import Derived.Lib.ValidLaws
set_option linter.unusedVariables false
namespace Go.Proofs.YtljdfainnmpjnaaDoor
open Go.RowKit

/-- What the tables ask of an encoding whose first byte is not ASCII. -/
def tabStep (l : List UInt8) : Option Nat :=
  Lib.checkN l.length (l.getD 1 0).toNat (l.getD 2 0).toNat (l.getD 3 0).toNat (Lib.firstT (l.getD 0 0).toNat % 8) (Lib.accLo (Lib.firstT (l.getD 0 0).toNat / 16)) (Lib.accHi (Lib.firstT (l.getD 0 0).toNat / 16))
theorem tab_low {c : UInt8} {r : List UInt8} (h : c.toNat < 128) : utfStep (c :: r) = some 1 := by
  unfold utfStep
  dsimp only
  rw [utfHead_1 (by omega)]
  dsimp only
  rw [if_neg (by omega), Nat.sub_self, utfCont_zero]
  dsimp only
  have : utfGood (c.toNat : Int) 0 = true := by unfold utfGood; simp; omega
  rw [this]; rfl
theorem good_iff (v low : Int) : utfGood v low = true ↔ (low ≤ v ∧ v ≤ 1114111 ∧ (v < 55296 ∨ 57343 < v)) := by
  unfold utfGood; simp <;> omega
theorem step_2 {c : UInt8} {r : List UInt8} {v low : Int} (hh : utfHead c.toNat = some (2, v, low)) :
    utfStep (c :: r) = if r.length + 1 < 2 ∨ (r.getD 0 0).toNat < 128 ∨ 191 < (r.getD 0 0).toNat ∨ ¬ utfGood (v * 64 + (r.getD 0 0).toNat - 128) low = true then none else some 2 := by
  unfold utfStep
  dsimp only
  rw [hh]
  dsimp only
  match r with
  | [] => simp
  | d :: r =>
    rw [if_neg (by simp <;> omega), show (2 : Nat) - 1 = 0 + 1 by rfl, utfCont_succ]
    simp only [List.getD_cons_zero]
    by_cases h1 : (d.toNat : Int) < 128 ∨ 192 ≤ (d.toNat : Int)
    · rw [if_pos h1, if_pos (by omega)]
    · rw [if_neg h1, utfCont_zero]
      dsimp only
      by_cases h2 : utfGood (v * 64 + d.toNat - 128) low = true
      · rw [if_pos h2, if_neg (by simp [h2]; omega)]
      · rw [if_neg h2, if_pos (by simp [h2])]
theorem step_3 {c : UInt8} {r : List UInt8} {v low : Int} (hh : utfHead c.toNat = some (3, v, low)) :
    utfStep (c :: r) = if r.length + 1 < 3 ∨ (r.getD 0 0).toNat < 128 ∨ 191 < (r.getD 0 0).toNat ∨ (r.getD 1 0).toNat < 128 ∨ 191 < (r.getD 1 0).toNat ∨ ¬ utfGood ((v * 64 + (r.getD 0 0).toNat - 128) * 64 + (r.getD 1 0).toNat - 128) low = true then none else some 3 := by
  unfold utfStep
  dsimp only
  rw [hh]
  dsimp only
  match r with
  | [] => simp
  | [d] => simp
  | d :: e :: r =>
    rw [if_neg (by simp), show (3 : Nat) - 1 = 0 + 1 + 1 by rfl, utfCont_succ]
    simp only [List.getD_cons_zero, List.getD_cons_succ]
    by_cases h1 : (d.toNat : Int) < 128 ∨ 192 ≤ (d.toNat : Int)
    · rw [if_pos h1, if_pos (by omega)]
    · rw [if_neg h1, utfCont_succ]
      by_cases h2 : (e.toNat : Int) < 128 ∨ 192 ≤ (e.toNat : Int)
      · rw [if_pos h2, if_pos (by omega)]
      · rw [if_neg h2, utfCont_zero]
        dsimp only
        by_cases h3 : utfGood ((v * 64 + d.toNat - 128) * 64 + e.toNat - 128) low = true
        · rw [if_pos h3, if_neg (by simp [h3]; omega)]
        · rw [if_neg h3, if_pos (by simp [h3])]
theorem step_4 {c : UInt8} {r : List UInt8} {v low : Int} (hh : utfHead c.toNat = some (4, v, low)) :
    utfStep (c :: r) = if r.length + 1 < 4 ∨ (r.getD 0 0).toNat < 128 ∨ 191 < (r.getD 0 0).toNat ∨ (r.getD 1 0).toNat < 128 ∨ 191 < (r.getD 1 0).toNat ∨ (r.getD 2 0).toNat < 128 ∨ 191 < (r.getD 2 0).toNat ∨ ¬ utfGood (((v * 64 + (r.getD 0 0).toNat - 128) * 64 + (r.getD 1 0).toNat - 128) * 64 + (r.getD 2 0).toNat - 128) low = true then none else some 4 := by
  unfold utfStep
  dsimp only
  rw [hh]
  dsimp only
  match r with
  | [] => simp
  | [d] => simp
  | [d, e] => simp
  | d :: e :: f :: r =>
    rw [if_neg (by simp), show (4 : Nat) - 1 = 0 + 1 + 1 + 1 by rfl, utfCont_succ]
    simp only [List.getD_cons_zero, List.getD_cons_succ]
    by_cases h1 : (d.toNat : Int) < 128 ∨ 192 ≤ (d.toNat : Int)
    · rw [if_pos h1, if_pos (by omega)]
    · rw [if_neg h1, utfCont_succ]
      by_cases h2 : (e.toNat : Int) < 128 ∨ 192 ≤ (e.toNat : Int)
      · rw [if_pos h2, if_pos (by omega)]
      · rw [if_neg h2, utfCont_succ]
        by_cases h3 : (f.toNat : Int) < 128 ∨ 192 ≤ (f.toNat : Int)
        · rw [if_pos h3, if_pos (by omega)]
        · rw [if_neg h3, utfCont_zero]
          dsimp only
          by_cases h4 : utfGood (((v * 64 + d.toNat - 128) * 64 + e.toNat - 128) * 64 + f.toNat - 128) low = true
          · rw [if_pos h4, if_neg (by simp [h4]; omega)]
          · rw [if_neg h4, if_pos (by simp [h4])]
theorem chk2 (n b1 b2 b3 lo hi : Nat) : Lib.checkN n b1 b2 b3 2 lo hi = if n < 2 ∨ b1 < lo ∨ hi < b1 then none else some 2 := rfl
theorem chk3 (n b1 b2 b3 lo hi : Nat) : Lib.checkN n b1 b2 b3 3 lo hi = if n < 3 ∨ b1 < lo ∨ hi < b1 ∨ b2 < 128 ∨ 191 < b2 then none else some 3 := rfl
theorem chk4 (n b1 b2 b3 lo hi : Nat) : Lib.checkN n b1 b2 b3 4 lo hi = if n < 4 ∨ b1 < lo ∨ hi < b1 ∨ b2 < 128 ∨ 191 < b2 ∨ b3 < 128 ∨ 191 < b3 then none else some 4 := rfl
set_option maxHeartbeats 4000000 in
theorem tab_high {c : UInt8} {r : List UInt8} (h : 128 ≤ c.toNat) : utfStep (c :: r) = tabStep (c :: r) := by
  have hc := c.toNat_lt
  have b1 := (r.getD 0 0).toNat_lt
  have b2 := (r.getD 1 0).toNat_lt
  have b3 := (r.getD 2 0).toNat_lt
  unfold tabStep
  simp only [List.length_cons, List.getD_cons_zero, List.getD_cons_succ]
  have key : ∀ sz lo hi, Lib.firstT c.toNat % 8 = sz → Lib.accLo (Lib.firstT c.toNat / 16) = lo → Lib.accHi (Lib.firstT c.toNat / 16) = hi → utfStep (c :: r) = Lib.checkN (r.length + 1) (r.getD 0 0).toNat (r.getD 1 0).toNat (r.getD 2 0).toNat sz lo hi →
      utfStep (c :: r) = Lib.checkN (r.length + 1) (r.getD 0 0).toNat (r.getD 1 0).toNat (r.getD 2 0).toNat (Lib.firstT c.toNat % 8) (Lib.accLo (Lib.firstT c.toNat / 16)) (Lib.accHi (Lib.firstT c.toNat / 16)) := fun sz lo hi e1 e2 e3 e => by rw [e1, e2, e3]; exact e
  by_cases q : c.toNat < 192
  · have hf : Lib.firstT c.toNat = 241 := by
      unfold Lib.firstT
      repeat' split
      all_goals omega
    refine key 1 0 0 (by rw [hf]) (by rw [hf]; rfl) (by rw [hf]; rfl) ?_
    have hh : utfHead c.toNat = none := by unfold utfHead; rw [if_neg (by omega), if_neg (by omega), if_neg (by omega), if_neg (by omega)]
    unfold utfStep
    dsimp only
    rw [hh]
    rfl
  by_cases q : c.toNat < 194
  · have hf : Lib.firstT c.toNat = 241 := by
      unfold Lib.firstT
      repeat' split
      all_goals omega
    refine key 1 0 0 (by rw [hf]) (by rw [hf]; rfl) (by rw [hf]; rfl) ?_
    rw [step_2 (utfHead_2 (by omega) (by omega))]
    rw [if_pos (by simp only [good_iff]; omega)]
    rfl
  by_cases q : c.toNat < 224
  · have hf : Lib.firstT c.toNat = 2 := by
      unfold Lib.firstT
      repeat' split
      all_goals omega
    refine key 2 128 191 (by rw [hf]) (by rw [hf]; rfl) (by rw [hf]; rfl) ?_
    rw [step_2 (utfHead_2 (by omega) (by omega))]
    rw [chk2]
    simp only [good_iff]
    split <;> split <;> first | rfl | (exfalso; omega)
  by_cases q : c.toNat < 225
  · have hf : Lib.firstT c.toNat = 19 := by
      unfold Lib.firstT
      repeat' split
      all_goals omega
    refine key 3 160 191 (by rw [hf]) (by rw [hf]; rfl) (by rw [hf]; rfl) ?_
    rw [step_3 (utfHead_3 (by omega) (by omega))]
    rw [chk3]
    simp only [good_iff]
    split <;> split <;> first | rfl | (exfalso; omega)
  by_cases q : c.toNat < 237
  · have hf : Lib.firstT c.toNat = 3 := by
      unfold Lib.firstT
      repeat' split
      all_goals omega
    refine key 3 128 191 (by rw [hf]) (by rw [hf]; rfl) (by rw [hf]; rfl) ?_
    rw [step_3 (utfHead_3 (by omega) (by omega))]
    rw [chk3]
    simp only [good_iff]
    split <;> split <;> first | rfl | (exfalso; omega)
  by_cases q : c.toNat < 238
  · have hf : Lib.firstT c.toNat = 35 := by
      unfold Lib.firstT
      repeat' split
      all_goals omega
    refine key 3 128 159 (by rw [hf]) (by rw [hf]; rfl) (by rw [hf]; rfl) ?_
    rw [step_3 (utfHead_3 (by omega) (by omega))]
    rw [chk3]
    simp only [good_iff]
    split <;> split <;> first | rfl | (exfalso; omega)
  by_cases q : c.toNat < 240
  · have hf : Lib.firstT c.toNat = 3 := by
      unfold Lib.firstT
      repeat' split
      all_goals omega
    refine key 3 128 191 (by rw [hf]) (by rw [hf]; rfl) (by rw [hf]; rfl) ?_
    rw [step_3 (utfHead_3 (by omega) (by omega))]
    rw [chk3]
    simp only [good_iff]
    split <;> split <;> first | rfl | (exfalso; omega)
  by_cases q : c.toNat < 241
  · have hf : Lib.firstT c.toNat = 52 := by
      unfold Lib.firstT
      repeat' split
      all_goals omega
    refine key 4 144 191 (by rw [hf]) (by rw [hf]; rfl) (by rw [hf]; rfl) ?_
    rw [step_4 (utfHead_4 (by omega) (by omega))]
    rw [chk4]
    simp only [good_iff]
    split <;> split <;> first | rfl | (exfalso; omega)
  by_cases q : c.toNat < 244
  · have hf : Lib.firstT c.toNat = 4 := by
      unfold Lib.firstT
      repeat' split
      all_goals omega
    refine key 4 128 191 (by rw [hf]) (by rw [hf]; rfl) (by rw [hf]; rfl) ?_
    rw [step_4 (utfHead_4 (by omega) (by omega))]
    rw [chk4]
    simp only [good_iff]
    split <;> split <;> first | rfl | (exfalso; omega)
  by_cases q : c.toNat < 245
  · have hf : Lib.firstT c.toNat = 68 := by
      unfold Lib.firstT
      repeat' split
      all_goals omega
    refine key 4 128 143 (by rw [hf]) (by rw [hf]; rfl) (by rw [hf]; rfl) ?_
    rw [step_4 (utfHead_4 (by omega) (by omega))]
    rw [chk4]
    simp only [good_iff]
    split <;> split <;> first | rfl | (exfalso; omega)
  by_cases q : c.toNat < 248
  · have hf : Lib.firstT c.toNat = 241 := by
      unfold Lib.firstT
      repeat' split
      all_goals omega
    refine key 1 0 0 (by rw [hf]) (by rw [hf]; rfl) (by rw [hf]; rfl) ?_
    rw [step_4 (utfHead_4 (by omega) (by omega))]
    rw [if_pos (by simp only [good_iff]; omega)]
    rfl
  by_cases q : True
  · have hf : Lib.firstT c.toNat = 241 := by
      unfold Lib.firstT
      repeat' split
      all_goals omega
    refine key 1 0 0 (by rw [hf]) (by rw [hf]; rfl) (by rw [hf]; rfl) ?_
    have hh : utfHead c.toNat = none := by unfold utfHead; rw [if_neg (by omega), if_neg (by omega), if_neg (by omega), if_neg (by omega)]
    unfold utfStep
    dsimp only
    rw [hh]
    rfl
  exact absurd trivial q
/-- The library's test is the reference's. -/
theorem validD_utfR : ∀ (n : Nat) (l : List UInt8), l.length ≤ n → Lib.validD l = utfR l := by
  intro n
  induction n with
  | zero =>
    intro l hl
    obtain rfl : l = [] := List.eq_nil_of_length_eq_zero (by omega)
    rfl
  | succ n ih =>
    intro l hl
    cases l with
    | nil => rfl
    | cons c r =>
      simp only [List.length_cons] at hl
      rw [utfR_step (by simp)]
      by_cases h : c.toNat < 128
      · rw [Lib.validD_cons c r h, tab_low h]
        exact ih r (by omega)
      · rw [Lib.validD_lead (c :: r) (by simp) (by simpa using (by omega : 128 ≤ c.toNat)), tab_high (by omega)]
        have e : tabStep (c :: r) = Lib.checkN (c :: r).length ((c :: r).getD 1 0).toNat ((c :: r).getD 2 0).toNat ((c :: r).getD 3 0).toNat (Lib.firstT ((c :: r).getD 0 0).toNat % 8) (Lib.accLo (Lib.firstT ((c :: r).getD 0 0).toNat / 16)) (Lib.accHi (Lib.firstT ((c :: r).getD 0 0).toNat / 16)) := rfl
        rw [← e, ← tab_high (by omega)]
        cases hs : utfStep (c :: r) with
        | none => rfl
        | some k =>
          have := utfStep_pos hs
          exact ih _ (by simp only [List.length_drop, List.length_cons]; omega)
end Go.Proofs.YtljdfainnmpjnaaDoor

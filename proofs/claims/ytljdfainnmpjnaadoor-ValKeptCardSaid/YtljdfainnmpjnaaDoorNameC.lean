/- The program's test of a name tells what the reference tells. -/
import Derived.Test.YtljdfainnmpjnaaDoorValid
import Derived.Test.YtljdfainnmpjnaaDoorShelf
set_option linter.unusedVariables false
namespace Go.Proofs.YtljdfainnmpjnaaDoor
open Go.RowKit

theorem validC : ValidC := fun bs S A c w hT hA h1 h2 => valid_any bs S A c w hT hA h1 h2

/-- What the closure asks of a rune. -/
def badRune (r : Nat) : Bool := decide (r < 32) || decide (r = 46)
theorem bad_pred (w : World) : PredAt Tryd.prog 93 #[] encR badRune w := fun W r _ => by
  unfold FnGives
  by_cases h1 : r < 32
  · have e : badRune r = true := by simp [badRune, h1]
    rw [e]
    have h1z : (r : Int) < 32 := by omega
    go_enter Tryd.func93, Tryd.ntmps93
    go_wp2_with fail
    go_ret
    exact ⟨rfl, 0, rfl⟩
  · have h1z : ¬ ((r : Int) < 32) := by omega
    by_cases h2 : r = 46
    · have e : badRune r = true := by simp [badRune, h2]
      rw [e]
      have h2z : ((r : Int) == 46) = true := by simp; omega
      clear h2 h1 e
      go_enter Tryd.func93, Tryd.ntmps93
      go_wp2_with fail
      go_ret
      exact ⟨rfl, 0, rfl⟩
    · have e : badRune r = false := by simp [badRune, h1, h2]
      rw [e]
      have h2z : ((r : Int) == 46) = false := by simp; omega
      clear h2 h1 e
      go_enter Tryd.func93, Tryd.ntmps93
      go_wp2_with fail
      go_ret
      exact ⟨rfl, 0, rfl⟩

set_option maxHeartbeats 1000000 in
/-- A rune from 128 on, its width, and that the bytes of it are all from 128 on. -/
theorem decodeN_high (n b0 b1 b2 b3 : Nat) (h : 128 ≤ b0) (h0 : b0 < 256) (hn : 1 ≤ n) :
    128 ≤ (Lib.decodeN n b0 b1 b2 b3).1 ∧ 1 ≤ (Lib.decodeN n b0 b1 b2 b3).2 ∧ (Lib.decodeN n b0 b1 b2 b3).2 ≤ 4 ∧ (Lib.decodeN n b0 b1 b2 b3).2 ≤ n ∧ (1 < (Lib.decodeN n b0 b1 b2 b3).2 → 128 ≤ b1) ∧ (2 < (Lib.decodeN n b0 b1 b2 b3).2 → 128 ≤ b2) ∧ (3 < (Lib.decodeN n b0 b1 b2 b3).2 → 128 ≤ b3) := by
  unfold Lib.decodeN
  rw [if_neg (by omega)]
  split
  · split <;> simp only <;> omega
  · split
    · split <;> simp only <;> omega
    · split
      · split <;> simp only <;> omega
      · simp only; omega
def badByte (c : UInt8) : Bool := decide (c.toNat < 32) || decide (c.toNat = 46)
theorem get!_eq (s : ByteArray) {i : Nat} (h : i < s.size) : s.get! i = s[i] := by
  rw [← Lib.getD_get!', getD_at (by simpa using h)]; rfl
theorem bad_high {c : UInt8} (h : 128 ≤ c.toNat) : badByte c = false := by
  unfold badByte
  simp
  omega
/-- The first rune that is asked for is there just where a byte is. -/
theorem idx_bytes (s : ByteArray) : ∀ (f pos : Nat), s.size ≤ pos + f → (0 ≤ Lib.idxFuncFrom badRune true s f pos ↔ ∃ i, ∃ h : i < s.size, pos ≤ i ∧ badByte s[i] = true)
  | 0, pos, hf => by
    constructor
    · intro h
      simp [Lib.idxFuncFrom] at h
    · rintro ⟨i, h, hp, -⟩
      omega
  | f + 1, pos, hf => by
    by_cases hp : pos < s.size
    · rw [Lib.idxFuncFrom, if_pos hp, Lib.decode_at]
      have c0 : (s.get! pos).toNat < 256 := (s.get! pos).toNat_lt
      by_cases ha : (s.get! pos).toNat < 128
      · have ed : Lib.decodeN (s.size - pos) (s.get! pos).toNat (s.get! (pos + 1)).toNat (s.get! (pos + 2)).toNat (s.get! (pos + 3)).toNat = ((s.get! pos).toNat, 1) := by unfold Lib.decodeN; rw [if_pos ha]
        rw [ed]
        dsimp only
        have eb : badRune (s.get! pos).toNat = badByte (s[pos]) := by rw [get!_eq s hp]; rfl
        rw [eb]
        by_cases hb : badByte (s[pos]) = true
        · rw [if_pos hb]
          exact ⟨fun _ => ⟨pos, hp, Nat.le_refl _, hb⟩, fun _ => by omega⟩
        · rw [if_neg hb, idx_bytes s f (pos + 1) (by omega)]
          constructor
          · rintro ⟨i, h, h1, h2⟩
            exact ⟨i, h, by omega, h2⟩
          · rintro ⟨i, h, h1, h2⟩
            refine ⟨i, h, ?_, h2⟩
            by_cases e : i = pos
            · subst e; exact absurd h2 hb
            · omega
      · obtain ⟨h1, h2, h3, h4, h5, h6, h7⟩ := decodeN_high (s.size - pos) (s.get! pos).toNat (s.get! (pos + 1)).toNat (s.get! (pos + 2)).toNat (s.get! (pos + 3)).toNat (by omega) c0 (by omega)
        generalize Lib.decodeN (s.size - pos) (s.get! pos).toNat (s.get! (pos + 1)).toNat (s.get! (pos + 2)).toNat (s.get! (pos + 3)).toNat = d at h1 h2 h3 h4 h5 h6 h7 ⊢
        have eb : ¬ badRune d.1 = true := by unfold badRune; simp; omega
        rw [if_neg eb, idx_bytes s f (pos + d.2) (by omega)]
        constructor
        · rintro ⟨i, h, k1, k2⟩
          exact ⟨i, h, by omega, k2⟩
        · rintro ⟨i, h, k1, k2⟩
          refine ⟨i, h, ?_, k2⟩
          by_cases e : pos + d.2 ≤ i
          · exact e
          · exfalso
            have hi : 128 ≤ (s.get! i).toNat := by
              obtain ⟨j, rfl⟩ : ∃ j, i = pos + j := ⟨i - pos, by omega⟩
              have : j = 0 ∨ j = 1 ∨ j = 2 ∨ j = 3 := by omega
              rcases this with rfl | rfl | rfl | rfl
              · rw [Nat.add_zero]; omega
              · exact h5 (by omega)
              · exact h6 (by omega)
              · exact h7 (by omega)
            rw [get!_eq s h] at hi
            rw [bad_high hi] at k2
            cases k2
    · rw [Lib.idxFuncFrom_end _ _ _ _ _ hp]
      constructor
      · intro h; omega
      · rintro ⟨i, h, h1, -⟩; omega
theorem nameByte_bad (c : UInt8) : nameByte c = !badByte c := by
  unfold nameByte badByte
  have e1 : decide ((c.toNat : Int) < 32) = decide (c.toNat < 32) := by simp; omega
  have e2 : decide ((c.toNat : Int) = 46) = decide (c.toNat = 46) := by simp; omega
  rw [e1, e2]
theorem idx_all (s : ByteArray) : (!decide (0 ≤ Lib.idxFunc badRune true s)) = s.data.toList.all nameByte := by
  rw [Bool.eq_iff_iff]
  unfold Lib.idxFunc
  simp only [Bool.not_eq_true', decide_eq_false_iff_not, idx_bytes s s.size 0 (by omega), List.all_eq_true]
  constructor
  · intro h x hx
    obtain ⟨i, hi, rfl⟩ := List.getElem_of_mem hx
    rw [nameByte_bad]
    cases hb : badByte (s.data.toList[i]) with
    | false => rfl
    | true => exact absurd ⟨i, by simpa using hi, by omega, hb⟩ h
  · rintro h ⟨i, hi, -, hb⟩
    have := h (s[i]) (by
      have : s.data.toList[i]'(by simpa using hi) = s[i] := rfl
      rw [← this]; exact List.getElem_mem _)
    rw [nameByte_bad, hb] at this
    cases this

set_option maxRecDepth 100000 in
set_option maxHeartbeats 1000000 in
theorem nameC : NameC := by
  intro s w hT hs
  have cV := Any.utf8_ValidString lays196 s w (by omega) hT
  rw [validD_utfR s.data.toList.length s.data.toList (Nat.le_refl _)] at cV
  have cC : ∀ W, Calls Tryd.prog 92 #[.string s, .func (.func 93) #[] #[]] W fun e w' => e = .returned (.bool (decide (0 ≤ Lib.idxFunc badRune true s))) ∧ Below W.heap.size W w' := fun W => Any.strings_ContainsFunc laysGw17 93 #[] (enters_of Tryd.func93 (by kernel_rfl) rfl) badRune s W (bad_pred W)
  change Calls Tryd.prog 91 _ _ _ at cV
  obtain ⟨R, hR⟩ : ∃ R, nameR s = R := ⟨_, rfl⟩
  rw [hR]
  unfold nameR at hR
  rw [← idx_all s] at hR
  obtain ⟨I, hI⟩ : ∃ I, decide (0 ≤ Lib.idxFunc badRune true s) = I := ⟨_, rfl⟩
  obtain ⟨U, hU⟩ : ∃ U, utfR s.data.toList = U := ⟨_, rfl⟩
  rw [hI] at cC hR
  rw [hU] at cV hR
  have CC := @Lib.hid _ @cC
  have CV := @Lib.hid _ @cV
  clear cC cV hI hU
  by_cases h1 : 1 ≤ s.size
  · have hne : s.toList.isEmpty = false := by
      rw [ByteArray.toList_eq, List.isEmpty_eq_false_iff]
      intro h
      have : s.data.toList.length = s.size := by simp
      rw [h] at this
      simp at this
      omega
    by_cases h2 : s.size ≤ 32
    · have h2z : (s.size : Int) ≤ 32 := by omega
      rw [decide_eq_true h1, decide_eq_true h2, Bool.true_and, Bool.true_and] at hR
      have HR := Lib.hid hR
      clear hR
      cases U with
      | true =>
        go_enter Tryd.func71, Tryd.ntmps71
        go_wp2_with fail
        refine CV.out.mono ?_
        rintro e w1 ⟨rfl, hb⟩
        go_wp2_with fail
        refine (CC.out _).mono ?_
        rintro e w2 ⟨rfl, hb2⟩
        go_wp2_with fail
        go_ret
        obtain rfl := HR.out
        exact ⟨by rw [Bool.and_true]; rfl, below_step hb (Nat.le_refl _) hb2⟩
      | false =>
        go_enter Tryd.func71, Tryd.ntmps71
        go_wp2_with fail
        refine CV.out.mono ?_
        rintro e w1 ⟨rfl, hb⟩
        go_wp2_with fail
        go_ret
        obtain rfl := HR.out
        exact ⟨by rw [Bool.and_false]; rfl, hb⟩
    · rw [decide_eq_false h2, Bool.false_and, Bool.and_false, Bool.and_false] at hR
      subst hR
      have h2z : ¬ (s.size : Int) ≤ 32 := by omega
      go_enter Tryd.func71, Tryd.ntmps71
      go_wp2_with fail
      go_ret
      exact ⟨rfl, Below.refl _ _⟩
  · rw [decide_eq_false h1, Bool.false_and, Bool.and_false] at hR
    subst hR
    have hne : s.toList.isEmpty = true := by
      rw [ByteArray.toList_eq, List.isEmpty_iff]
      have : s.data.toList.length = s.size := by simp
      exact List.eq_nil_of_length_eq_zero (by omega)
    go_enter Tryd.func71, Tryd.ntmps71
    go_wp2_with fail
    go_ret
    exact ⟨rfl, Below.refl _ _⟩
end Go.Proofs.YtljdfainnmpjnaaDoor

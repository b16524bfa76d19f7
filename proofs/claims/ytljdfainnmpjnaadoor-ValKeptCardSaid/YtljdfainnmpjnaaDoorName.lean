/- The reference's test for names: what it computes, and that it does. -/
import Derived.Test.YtljdfainnmpjnaaDoorUtf
import Derived.Lib.ConvBytes
import Derived.Deep.QuietTactic
import Derived.BigQuiet
namespace Go.Proofs.YtljdfainnmpjnaaDoor
open Go.RowKit

/-- []byte(s) of a string: the new row. -/
theorem conv_bytes (w : World) (s : ByteArray) :
    (convert 9 22 (.string s)).run Tryd.prog w = .ok (.slice (some ⟨w.heap.size, 0, none⟩) s.size (grownCap w s.size 0 5)) (Lib.bytesWorld w 5 s) :=
  Lib.run_convert_string_bytes w 9 22 5 s Tryd.underlying9 Tryd.underlying22 Tryd.underlying5
theorem bytesWorld_below (w : World) (e : TypeId) (s : ByteArray) : Below w.heap.size w (Lib.bytesWorld w e s) :=
  ⟨rfl, rfl, rfl, by rw [Lib.bytesWorld_size]; omega, fun k hk => Lib.bytesWorld_at_old w e s k hk⟩
theorem bytesWorld_row (w : World) (s : ByteArray) (S : Nat → Prop) (hS : S w.heap.size) : BRow (Lib.bytesWorld w 5 s) S (some ⟨w.heap.size, 0, none⟩) s.data.toList :=
  BRow.of hS (by rw [Lib.bytesWorld_size]; omega) fun i hi => by
    have hi' : i < s.size := by simpa using hi
    rw [Nat.zero_add, Lib.bytesWorld_cell w 5 s i hi']
theorem bytesWorld_len (w : World) (s : ByteArray) (e : TypeId) (h : s.size ≤ 281474976710656) : Len s.data.toList.length (grownCap w s.size 0 e) := by
  have h1 := grownCap_ge w s.size 0 e
  have h2 := grownCap_le_maxLen w s.size 0 e (by unfold maxLen; omega)
  unfold maxLen at h2
  have h3 : s.data.toList.length = s.size := by simp
  exact ⟨by omega, by omega, by omega⟩

def nameByte (c : UInt8) : Bool := !(decide ((c.toNat : Int) < 32) || decide ((c.toNat : Int) = 46))
def nameR (s : ByteArray) : Bool := s.data.toList.all nameByte && (decide (1 ≤ s.size) && (decide (s.size ≤ 32) && utfR s.data.toList))

theorem drop_all (s : ByteArray) {i : Nat} (h : i < s.size) (p : UInt8 → Bool) : (s.data.toList.drop i).all p = (p s[i] && (s.data.toList.drop (i + 1)).all p) := by
  have hlt2 : i < s.data.toList.length := by simpa using h
  rw [List.drop_eq_getElem_cons hlt2, List.all_cons]
  rfl

set_option maxRecDepth 100000 in
set_option maxHeartbeats 1000000 in
theorem name_any (s : ByteArray) (w : World) (hs : s.size ≤ 281474976710656) :
    Calls Tryd.prog 74 #[.string s] w fun e w' => e = .returned (.bool (nameR s)) ∧ Below w.heap.size w w' := by
  obtain ⟨R, hR⟩ : ∃ R, nameR s = R := ⟨_, rfl⟩
  rw [hR]
  unfold nameR at hR
  have HR := Lib.hid hR
  clear hR
  have cvb : ∀ W : World, (convert 9 22 (.string s)).run Tryd.prog W = .ok (.slice (some ⟨W.heap.size, 0, none⟩) s.size (grownCap W s.size 0 5)) (Lib.bytesWorld W 5 s) := fun W => conv_bytes W s
  have hsz : s.data.toList.length = s.size := by simp
  have HSZ := Lib.hid hsz
  clear hsz
  go_enter Tryd.func74, Tryd.ntmps74
  go_wp2_with fail
  go_loopg [3] s.size (fun g t3 wr => ∃ i : Nat, i ≤ s.size ∧ t3 = .int .i64 i ∧ R = ((s.data.toList.drop i).all nameByte && (decide (1 ≤ s.size) && (decide (s.size ≤ 32) && utfR s.data.toList))) ∧ s.size ≤ i + g ∧ w = wr)
  case atStart => exact ⟨0, by omega, rfl, HR.out.symm, by omega, rfl⟩
  case round =>
    obtain ⟨i, hi, rfl, hw, hg, rfl⟩ := hrel
    by_cases hlt : i < s.size
    · rw [drop_all s hlt] at hw
      have HW := Lib.hid hw
      clear hw HR
      by_cases hc : nameByte s[i] = true
      · have hw := HW.out
        rw [hc, Bool.true_and] at hw
        have HW2 := Lib.hid hw
        unfold nameByte at hc
        simp only [Bool.not_eq_true', Bool.or_eq_false_iff, decide_eq_false_iff_not] at hc
        obtain ⟨hc1, hc2⟩ := hc
        have hc1 : 32 ≤ (s[i].toNat : Int) := by omega
        have hc3 : ((s[i].toNat : Int) == 46) = false := by simpa using hc2
        clear hw HW hc2
        go_wp2_with fail
        go_roundg (gk - 1)
        case measure => omega
        case rel => exact ⟨i + 1, by omega, by go_num, HW2.out, by omega, rfl⟩
      · have hw := HW.out
        rw [Bool.not_eq_true] at hc
        rw [hc, Bool.false_and, Bool.false_and] at hw
        subst hw
        unfold nameByte at hc
        simp only [Bool.not_eq_false', Bool.or_eq_true, decide_eq_true_eq] at hc
        clear HW
        rcases hc with hc | hc
        · go_wp2_with fail
          go_ret
          exact ⟨rfl, Below.refl _ _⟩
        · have hc3 : ((s[i].toNat : Int) == 46) = true := by simpa using hc
          have hc1 : 32 ≤ (s[i].toNat : Int) := by omega
          clear hc
          go_wp2_with fail
          go_ret
          exact ⟨rfl, Below.refl _ _⟩
    · rw [List.drop_of_length_le (by rw [HSZ.out]; omega), List.all_nil, Bool.true_and] at hw
      clear HR
      by_cases h1 : 1 ≤ s.size
      · by_cases h2 : s.size ≤ 32
        · rw [decide_eq_true h1, decide_eq_true h2, Bool.true_and, Bool.true_and] at hw
          have HW := Lib.hid hw
          clear hw
          have h1z : (1 : Int) ≤ (s.size : Int) := by omega
          have h2z : (s.size : Int) ≤ 32 := by omega
          go_wp2_with fail
          have hu := utf_any s.data.toList (some ⟨w.heap.size, 0, none⟩) (grownCap w s.size 0 5) (Lib.bytesWorld w 5 s) (bytesWorld_len _ _ _ hs) (bytesWorld_row w s _ (by show _ < _; rw [Lib.bytesWorld_size]; omega))
          rw [HSZ.out] at hu
          refine hu.mono ?_
          rintro e w1 ⟨rfl, rfl⟩
          go_wp2_with fail
          go_ret
          obtain rfl := HW.out
          exact ⟨rfl, bytesWorld_below _ _ _⟩
        · rw [decide_eq_false h2, Bool.false_and, Bool.and_false] at hw
          subst hw
          have h2z : (32 : Int) < (s.size : Int) := by omega
          go_wp2_with fail
          go_ret
          exact ⟨rfl, Below.refl _ _⟩
      · rw [decide_eq_false h1, Bool.false_and] at hw
        subst hw
        have h2z : (s.size : Int) < 1 := by omega
        go_wp2_with fail
        go_ret
        exact ⟨rfl, Below.refl _ _⟩
end Go.Proofs.YtljdfainnmpjnaaDoor

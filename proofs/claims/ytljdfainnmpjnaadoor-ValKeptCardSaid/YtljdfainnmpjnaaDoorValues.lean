/- The program's reader of values, at every bytes. -/
import Derived.Test.YtljdfainnmpjnaaDoorValue
import Derived.Test.YtljdfainnmpjnaaDoorValueL
import Derived.Test.YtljdfainnmpjnaaDoorValueD
set_option linter.unusedVariables false
namespace Go.Proofs.YtljdfainnmpjnaaDoor
open Go.RowKit

abbrev ValueC (rem : Nat) (d : Int) : Prop := ∀ (w : World) (S : Nat → Prop) (r : Nat) (bs : List UInt8), Reads w S r bs → (∀ k, S k → k < w.heap.size) → Tabs w → r ≠ 0 → r ≠ 1 →
  Calls Tryd.prog 41 #[.pointer (some ⟨r, 0, none⟩), .int .i64 d] w (TellsT w S r (parse rem bs))

theorem value_any (hV : ValidC) (hN : NameC) : ∀ (rem : Nat) (d : Int), d = 16 - rem → rem ≤ 16 → ValueC rem d := by
  intro rem
  induction rem with
  | zero =>
    intro d hd _ w S r bs hR hS hT t0 t1
    have hdd : decide (d < 16) = false := decide_eq_false (by omega)
    cases bs with
    | nil => exact value_nil d w S r hR hS hT t0 t1
    | cons x bs =>
      have e : parse 0 (x :: bs) = body none x.toNat bs := rfl
      rw [e]
      by_cases h0 : x.toNat < 1 ∨ 8 < x.toNat
      · have e : body none x.toNat bs = .error 4 := by unfold body; simp only [show ¬ x.toNat = 1 by omega, show ¬ x.toNat = 2 by omega, show ¬ (x.toNat = 3 ∨ x.toNat = 4) by omega, show ¬ (x.toNat = 5 ∨ x.toNat = 6) by omega, show ¬ x.toNat = 7 by omega, show ¬ x.toNat = 8 by omega, if_false]
        rw [e]; exact value_odd d x bs h0 w S r hR hS hT t0 t1
      obtain ⟨k, hk⟩ : ∃ k, x.toNat = k := ⟨_, rfl⟩
      rw [hk] at h0 ⊢
      have hk8 : k = 1 ∨ k = 2 ∨ k = 3 ∨ k = 4 ∨ k = 5 ∨ k = 6 ∨ k = 7 ∨ k = 8 := by omega
      rcases hk8 with rfl | rfl | rfl | rfl | rfl | rfl | rfl | rfl
      · exact value_1 d x bs hk w S r hR hS hT t0 t1
      · exact value_2 d x bs hk w S r hR hS hT t0 t1
      · exact value_3 d 3 (.inl rfl) x bs (by omega) w S r hR hS hT t0 t1
      · exact value_3 d 4 (.inr rfl) x bs (by omega) w S r hR hS hT t0 t1
      · exact value_5 hV d x bs hk w S r hR hS hT t0 t1
      · exact value_6 hV d x bs hk w S r hR hS hT t0 t1
      · exact value_deep7 d hdd x bs hk w S r hR hS hT t0 t1
      · exact value_deep8 d hdd x bs hk w S r hR hS hT t0 t1
  | succ rem ih =>
    intro d hd hle w S r bs hR hS hT t0 t1
    cases bs with
    | nil => exact value_nil d w S r hR hS hT t0 t1
    | cons x bs =>
      have e : parse (rem + 1) (x :: bs) = body (some (parse rem)) x.toNat bs := rfl
      rw [e]
      by_cases h0 : x.toNat < 1 ∨ 8 < x.toNat
      · have e : body (some (parse rem)) x.toNat bs = .error 4 := by unfold body; simp only [show ¬ x.toNat = 1 by omega, show ¬ x.toNat = 2 by omega, show ¬ (x.toNat = 3 ∨ x.toNat = 4) by omega, show ¬ (x.toNat = 5 ∨ x.toNat = 6) by omega, show ¬ x.toNat = 7 by omega, show ¬ x.toNat = 8 by omega, if_false]
        rw [e]; exact value_odd d x bs h0 w S r hR hS hT t0 t1
      obtain ⟨k, hk⟩ : ∃ k, x.toNat = k := ⟨_, rfl⟩
      rw [hk] at h0 ⊢
      have hk8 : k = 1 ∨ k = 2 ∨ k = 3 ∨ k = 4 ∨ k = 5 ∨ k = 6 ∨ k = 7 ∨ k = 8 := by omega
      rcases hk8 with rfl | rfl | rfl | rfl | rfl | rfl | rfl | rfl
      · exact value_1 d x bs hk w S r hR hS hT t0 t1
      · exact value_2 d x bs hk w S r hR hS hT t0 t1
      · exact value_3 d 3 (.inl rfl) x bs (by omega) w S r hR hS hT t0 t1
      · exact value_3 d 4 (.inr rfl) x bs (by omega) w S r hR hS hT t0 t1
      · exact value_5 hV d x bs hk w S r hR hS hT t0 t1
      · exact value_6 hV d x bs hk w S r hR hS hT t0 t1
      · exact value_7 (parse rem) d (by omega) (by omega) x bs hk w S r (fun W bs' h1 h2 h3 => ih (d + 1) (by omega) (by omega) W S r bs' h1 h2 h3 t0 t1) hR hS hT t0 t1
      · exact value_8 hN (parse rem) d (by omega) (by omega) x bs hk w S r (fun W bs' h1 h2 h3 => ih (d + 1) (by omega) (by omega) W S r bs' h1 h2 h3 t0 t1) hR hS hT t0 t1
end Go.Proofs.YtljdfainnmpjnaaDoor

/- Plain laws: values that are not vast are small. -/
import Derived.Test.YtljdfainnmpjnaaDoorGoodP
set_option linter.unusedVariables false
set_option linter.unusedSimpArgs false
namespace Go.Proofs.YtljdfainnmpjnaaDoor
open Go.RowKit

theorem walkL_parts : ∀ (l : List V) (_ : ∀ v ∈ l, ∀ x, (walkedR v x).2 = true → (walkedR v x).1 = x - v.parts ∧ 0 < (walkedR v x).1) (x y : Int), walkL l x = some y → 0 < y → y = x - partsL l ∧ 0 < x
  | [], _, x, y, h, hy => by
    simp only [walkL] at h
    cases h
    simp [partsL, hy]
  | v :: r, hv, x, y, h, hy => by
    rw [walkL] at h
    split at h
    · rename_i hx
      split at h
      · rename_i hw
        obtain ⟨h1, h2⟩ := hv v (by simp) x hw
        obtain ⟨h3, h4⟩ := walkL_parts r (fun u hu => hv u (by simp [hu])) _ _ h hy
        rw [partsL]
        omega
      · cases h
    · cases h
      omega
theorem walkF_parts : ∀ (l : List (ByteArray × V)) (_ : ∀ v ∈ l, ∀ x, (walkedR v.2 x).2 = true → (walkedR v.2 x).1 = x - v.2.parts ∧ 0 < (walkedR v.2 x).1) (x y : Int), walkF l x = some y → 0 < y → y = x - partsF l ∧ 0 < x
  | [], _, x, y, h, hy => by
    simp only [walkF] at h
    cases h
    simp [partsF, hy]
  | (s, v) :: r, hv, x, y, h, hy => by
    rw [walkF] at h
    split at h
    · rename_i hx
      split at h
      · rename_i hw
        obtain ⟨h1, h2⟩ := hv (s, v) (by simp) x hw
        obtain ⟨h3, h4⟩ := walkF_parts r (fun u hu => hv u (by simp [hu])) _ _ h hy
        rw [partsF]
        dsimp only at h1
        omega
      · cases h
    · cases h
      omega
theorem walkedR_parts (v : V) : ∀ x, (walkedR v x).2 = true → (walkedR v x).1 = x - v.parts ∧ 0 < (walkedR v x).1 := by
  induction v using V.ind0 with
  | h k n b l f ihl ihf =>
    intro x
    rw [walkedR, V.parts]
    rcases h1 : walkL l (x - 1) with _ | y
    · intro h; cases h
    · dsimp only
      rcases h2 : walkF f y with _ | z
      · intro h; cases h
      · dsimp only
        intro h
        have hz : 0 < z := of_decide_eq_true h
        obtain ⟨a, b⟩ := walkF_parts f ihf y z h2 hz
        obtain ⟨c, d⟩ := walkL_parts l ihl _ y h1 b
        omega
theorem parts_pos (v : V) : 1 ≤ v.parts := by
  induction v using V.ind0 with
  | h k n b l f ihl ihf =>
    have a : ∀ l : List V, (∀ v ∈ l, 1 ≤ v.parts) → 0 ≤ partsL l := fun l h => by
      induction l with
      | nil => simp [partsL]
      | cons v r ih => have := h v (by simp); have := ih (fun x hx => h x (by simp [hx])); rw [partsL]; omega
    have c : ∀ l : List (ByteArray × V), (∀ v ∈ l, 1 ≤ v.2.parts) → 0 ≤ partsF l := fun l h => by
      induction l with
      | nil => simp [partsF]
      | cons v r ih => obtain ⟨s, v⟩ := v; have := h (s, v) (by simp); have := ih (fun x hx => h x (by simp [hx])); rw [partsF]; dsimp only at *; omega
    have := a l ihl
    have := c f ihf
    rw [V.parts]
    omega
theorem partsL_nonneg : ∀ l : List V, 0 ≤ partsL l
  | [] => by simp [partsL]
  | v :: r => by have := partsL_nonneg r; have := parts_pos v; rw [partsL]; omega
theorem partsF_nonneg : ∀ l : List (ByteArray × V), 0 ≤ partsF l
  | [] => by simp [partsF]
  | (s, v) :: r => by have := partsF_nonneg r; have := parts_pos v; rw [partsF]; omega
theorem high_parts (v : V) : (v.high : Int) ≤ v.parts := by
  induction v using V.ind0 with
  | h k n b l f ihl ihf =>
    have a : ∀ l : List V, (∀ v ∈ l, (v.high : Int) ≤ v.parts) → (highL l : Int) ≤ partsL l := fun l h => by
      induction l with
      | nil => simp [partsL, highL]
      | cons v r ih => have := h v (by simp); have := ih (fun x hx => h x (by simp [hx])); have := parts_pos v; have := partsL_nonneg r; rw [partsL, highL]; omega
    have c : ∀ l : List (ByteArray × V), (∀ v ∈ l, (v.2.high : Int) ≤ v.2.parts) → (highF l : Int) ≤ partsF l := fun l h => by
      induction l with
      | nil => simp [partsF, highF]
      | cons v r ih => obtain ⟨s, v⟩ := v; have := h (s, v) (by simp); have := ih (fun x hx => h x (by simp [hx])); have := parts_pos v; have := partsF_nonneg r; rw [partsF, highF]; dsimp only at *; omega
    have := a l ihl
    have := c f ihf
    have := partsL_nonneg l
    have := partsF_nonneg f
    rw [V.parts, V.high]
    omega
/-- Every row of bytes fits a memory. -/
inductive Lens : V → Prop where
  | mk (k n : Int) (b : List UInt8) (l : List V) (f : List (ByteArray × V)) (h : b.length ≤ 281474976710656) (hl : ∀ i (h : i < l.length), Lens l[i]) (hf : ∀ i (h : i < f.length), Lens (f[i]).2) : Lens (.mk k n b l f)
theorem Rep.lens {w : World} {S : Nat → Prop} {v : V} {cs : List Value} (h : Rep w S v cs) : Lens v := by
  induction h with
  | mk k n b l f AB AL AF cb cl cf L F hk hn hb' hB hl hL _ hf hF _ hfn ihL ihF => exact .mk k n b l f hb'.2.1 ihL ihF
theorem Lens.inv {k n : Int} {b : List UInt8} {l : List V} {f : List (ByteArray × V)} (h : Lens (.mk k n b l f)) : b.length ≤ 281474976710656 ∧ (∀ x ∈ l, Lens x) ∧ (∀ x ∈ f, Lens x.2) := by
  cases h with
  | mk _ _ _ _ _ h hl hf =>
    refine ⟨h, fun x hx => ?_, fun x hx => ?_⟩
    · obtain ⟨i, hi, rfl⟩ := List.getElem_of_mem hx
      exact hl i hi
    · obtain ⟨i, hi, rfl⟩ := List.getElem_of_mem hx
      exact hf i hi
theorem size_parts (v : V) : Lens v → Formed v → sizeR v + 33 ≤ v.parts * 281474976710720 := by
  induction v using V.ind0 with
  | h k n b l f ihl ihf =>
    intro hL hF
    obtain ⟨hb, hLl, hLf⟩ := hL.inv
    obtain ⟨-, -, hl, hf⟩ := formed_parts hF
    have a : ∀ l : List V, (∀ v ∈ l, sizeR v + 33 ≤ v.parts * 281474976710720) → sizeL l ≤ partsL l * 281474976710720 := fun l h => by
      induction l with
      | nil => simp [partsL, sizeL]
      | cons v r ih => have := h v (by simp); have := ih (fun x hx => h x (by simp [hx])); rw [partsL, sizeL]; omega
    have c : ∀ l : List (ByteArray × V), (∀ v ∈ l, v.1.size ≤ 32 ∧ sizeR v.2 + 33 ≤ v.2.parts * 281474976710720) → sizeF l ≤ partsF l * 281474976710720 := fun l h => by
      induction l with
      | nil => simp [partsF, sizeF]
      | cons v r ih => obtain ⟨s, v⟩ := v; have := h (s, v) (by simp); have := ih (fun x hx => h x (by simp [hx])); rw [partsF, sizeF]; dsimp only at *; omega
    have h1 := a l (fun v hv => ihl v hv (hLl v hv) (hl v hv))
    have h2 := c f (fun v hv => ⟨by have := (hf v hv).1; simp only [nameR, Bool.and_eq_true, decide_eq_true_eq] at this; omega, ihf v hv (hLf v hv) (hf v hv).2⟩)
    have h3 : headN k b ≤ 3 + b.length + 6 := by unfold headN; split <;> (try split) <;> (try split) <;> (try split) <;> omega
    rw [V.parts, sizeR]
    omega
theorem small_of_parts {v : V} (hl : Lens v) (h : v.parts ≤ 20000) : Small v :=
  ⟨by have := high_parts v; omega, fun hf => by have := size_parts v hl hf; omega⟩
/-- What is not vast is small. -/
theorem vastL_small : ∀ (l : List V) (x : Int), x ≤ 20000 → vastL l x = false → ∀ v ∈ l, Lens v → Small v
  | [], x, hx, h, v, hv, hl => by cases hv
  | u :: r, x, hx, h, v, hv, hl => by
    rw [vastL] at h
    split at h
    · rename_i hw
      obtain ⟨a, b⟩ := walkedR_parts u x hw
      have := parts_pos u
      rcases List.mem_cons.1 hv with rfl | hv
      · exact small_of_parts hl (by omega)
      · exact vastL_small r _ (by omega) h v hv hl
    · cases h
theorem vast_small {l : List V} (h : vastR l = false) {v : V} (hv : v ∈ l) {w : World} {S : Nat → Prop} {cs : List Value} (hr : Rep w S v cs) : Small v :=
  vastL_small l 20000 (Int.le_refl _) h v hv hr.lens
end Go.Proofs.YtljdfainnmpjnaaDoor

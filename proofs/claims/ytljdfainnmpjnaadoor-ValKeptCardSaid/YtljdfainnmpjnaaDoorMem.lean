/- Operations on bytes and slices of the call's own, over the trees' words. -/
import Derived.Test.YtljdfainnmpjnaaDoorBase
import Derived.Laws.BytesArg
import Derived.Handy
namespace Go.Proofs.YtljdfainnmpjnaaDoor
open Go.RowKit

theorem strOf_bytes (b : List UInt8) : strOfNums (b.map fun x => (x.toNat : Int)) = ⟨b.toArray⟩ := by
  unfold strOfNums
  rw [List.map_map]
  congr 1
  congr 1
  have : ((fun n : Int => UInt8.ofNat n.toNat) ∘ fun x : UInt8 => (x.toNat : Int)) = id := by
    funext x; simp
  rw [this]; simp

/-- string(b) -/
theorem conv_str {w : World} {S : Nat → Prop} {A : Option Addr} {b : List UInt8} {c n : Nat} (hn : n = b.length) (h : BRow w S A b) :
    (convert 22 9 (.slice A n c)).run Tryd.prog w = .ok (.string ⟨b.toArray⟩) w := by
  subst hn
  by_cases h0 : 0 < b.length
  · obtain ⟨bb, o, rfl, _, _, hc⟩ := h.at h0
    have := run_convert_bytes_arg (P := Tryd.prog) w 22 5 Tryd.underlying22 Tryd.underlying5 bb o b.length c (b.map fun x => (x.toNat : Int)) (by simp) (fun i hi => by
      rw [hc i hi]
      simp [List.getD_eq_getElem?_getD, List.getElem?_map, List.getElem?_eq_getElem hi]) 9 Tryd.underlying9
    rw [this, strOf_bytes]
  · obtain rfl : b = [] := List.eq_nil_of_length_eq_zero (by omega)
    rw [run_convert_bytes_string w 22 9 5 A _ c Tryd.underlying22 Tryd.underlying5 Tryd.underlying9]
    cases A with
    | none => simp [Conv.bytesToString]; rfl
    | some a => simp [Conv.bytesToString, loadCells, loadCellsFrom]; rfl

theorem string_inj {a b : List UInt8} : ((⟨a.toArray⟩ : ByteArray) = ⟨b.toArray⟩) ↔ a = b := by
  constructor
  · intro h
    have := congrArg (fun s : ByteArray => s.data.toList) h
    simpa using this
  · rintro rfl; rfl

theorem str_bne {a b : ByteArray} (h : ¬ a = b) : (a.toList != b.toList) = true := by
  rw [ByteArray.toList_eq, ByteArray.toList_eq, bne_iff_ne]
  intro he
  exact h (by obtain ⟨⟨x⟩⟩ := a; obtain ⟨⟨y⟩⟩ := b; simpa using he)
theorem str_beq {a b : ByteArray} (h : ¬ a = b) : (a.toList == b.toList) = false := by
  have := str_bne h
  simpa [bne] using this
end Go.Proofs.YtljdfainnmpjnaaDoor

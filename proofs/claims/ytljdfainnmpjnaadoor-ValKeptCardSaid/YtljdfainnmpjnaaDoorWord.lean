/- The library's word of eight bytes. -/
import Derived.Test.YtljdfainnmpjnaaDoorValidLaw
import Derived.Test.YtljdfainnmpjnaaDoorParse
import Derived.Deep.QuietTactic
import Derived.Lib.Endian
import Derived.Lib.EndianBits
import Derived.Lib.ValidAsc
set_option linter.unusedVariables false
namespace Go.Proofs.YtljdfainnmpjnaaDoor
open Go.RowKit

set_option maxHeartbeats 8000000 in
set_option maxRecDepth 100000 in
theorem word8_any (b o n c : Nat) (x0 x1 x2 x3 x4 x5 x6 x7 : UInt8) (w : World) (hn : 8 ≤ n)
    (h0 : w.cell? ⟨b, o, none⟩ = some (.int .u8 x0.toNat)) (h1 : w.cell? ⟨b, o + 1, none⟩ = some (.int .u8 x1.toNat)) (h2 : w.cell? ⟨b, o + 2, none⟩ = some (.int .u8 x2.toNat)) (h3 : w.cell? ⟨b, o + 3, none⟩ = some (.int .u8 x3.toNat))
    (h4 : w.cell? ⟨b, o + 4, none⟩ = some (.int .u8 x4.toNat)) (h5 : w.cell? ⟨b, o + 5, none⟩ = some (.int .u8 x5.toNat)) (h6 : w.cell? ⟨b, o + 6, none⟩ = some (.int .u8 x6.toNat)) (h7 : w.cell? ⟨b, o + 7, none⟩ = some (.int .u8 x7.toNat)) :
    Calls Tryd.prog 90 #[.slice (some ⟨b, o, none⟩) n c] w fun e w' => e = .returned (.int .u64 (Lib.leNat [x0, x1, x2, x3, x4, x5, x6, x7])) ∧ ∃ q, w' = w.drewN q := by
  have q0 : (0 : Int) < (n : Int) := by omega
  have q1 : (1 : Int) < (n : Int) := by omega
  have q2 : (2 : Int) < (n : Int) := by omega
  have q3 : (3 : Int) < (n : Int) := by omega
  have q4 : (4 : Int) < (n : Int) := by omega
  have q5 : (5 : Int) < (n : Int) := by omega
  have q6 : (6 : Int) < (n : Int) := by omega
  have q7 : (7 : Int) < (n : Int) := by omega
  go_enter Tryd.func90, Tryd.ntmps90
  go_wp2_with fail
  go_quiet (fail)
  go_wp2_with fail
  go_ret
  refine ⟨?_, _, rfl⟩
  have l0 := x0.toNat_lt; have l1 := x1.toNat_lt; have l2 := x2.toNat_lt; have l3 := x3.toNat_lt; have l4 := x4.toNat_lt; have l5 := x5.toNat_lt; have l6 := x6.toNat_lt; have l7 := x7.toNat_lt
  have hv : ((Lib.leNat [x0, x1, x2, x3, x4, x5, x6, x7] : Nat) : Int) = (x0.toNat : Int) + (x1.toNat : Int) * 256 + (x2.toNat : Int) * 65536 + (x3.toNat : Int) * 16777216 + (x4.toNat : Int) * 4294967296 + (x5.toNat : Int) * 1099511627776 + (x6.toNat : Int) * 281474976710656 + (x7.toNat : Int) * 72057594037927936 := by
    simp only [Lib.leNat]
    push_cast
    omega
  simp (disch := omega) only [u64_wrap_id, u64_or8, u64_or16, u64_or24, u64_or32, u64_or40, u64_or48, u64_or56]
  rw [hv]
  rfl
end Go.Proofs.YtljdfainnmpjnaaDoor

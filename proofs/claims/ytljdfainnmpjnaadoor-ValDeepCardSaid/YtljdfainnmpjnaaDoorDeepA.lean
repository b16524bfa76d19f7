/- The law ValDeep's makers: L, D, long. -/
import Derived.Test.YtljdfainnmpjnaaDoorAwake
set_option linter.unusedVariables false
namespace Go.Proofs.YtljdfainnmpjnaaDoor
open Go.RowKit

set_option maxRecDepth 100000 in
theorem L_any (A : Option Addr) (n c : Nat) (w : World) : Calls Tryd.prog 25 #[.slice A n c] w fun e w' => e = .returned (.agg #[.int .i64 7, .int .u64 0, .slice none 0 0, .slice A n c, .slice none 0 0]) ∧ Below w.heap.size w w' := by
  go_enter Tryd.func25, Tryd.ntmps25
  go_wp2_with fail
  exact bodyPost_ret (v := .agg #[.int .i64 7, .int .u64 0, .slice none 0 0, .slice A n c, .slice none 0 0]) (by simp [results, Tryd.results25, go_sem]) rfl ⟨rfl, (Below.refl _ _).alloc (Nat.le_refl _) _⟩

/-- So many letters n. -/
def longB (n : Nat) : ByteArray := ⟨(List.replicate n (110 : UInt8)).toArray⟩
theorem longB_size (n : Nat) : (longB n).size = n := by simp [longB, ByteArray.size]
theorem longB_next (n : Nat) : longB n ++ ⟨#[110]⟩ = longB (n + 1) := by
  apply ByteArray.ext
  apply Array.toList_inj.1
  simp [longB, ByteArray.data_append, List.replicate_succ']
set_option maxRecDepth 100000 in
set_option maxHeartbeats 400000 in
theorem long_any (n : Nat) (hn : n ≤ 1000) (w : World) : Calls Tryd.prog 27 #[.int .i64 n] w fun e w' => e = .returned (.string (longB n)) ∧ Below w.heap.size w w' := by
  go_enter Tryd.func27, Tryd.ntmps27
  go_wp2_with fail
  go_loopg [3, 4] n (fun g t3 t4 wr => ∃ i : Nat, i ≤ n ∧ t4 = .int .i64 i ∧ t3 = .string (longB i) ∧ n ≤ i + g ∧ Below w.heap.size w wr)
  case atStart => exact ⟨0, by omega, rfl, rfl, by omega, Below.refl _ _⟩
  case round =>
    obtain ⟨i, hi, rfl, rfl, hg, hb⟩ := hrel
    by_cases hlt : i < n
    · have hz : (i : Int) < n := by omega
      have hsz : ¬ 9223372036854775807 < (longB i).size + 1 := by rw [longB_size]; omega
      go_wp2_with fail
      go_roundg (gk - 1)
      case measure => omega
      case rel => exact ⟨i + 1, by omega, by go_num, by rw [longB_next], by omega, hb⟩
    · have hz : ¬ (i : Int) < n := by omega
      obtain rfl : i = n := by omega
      go_wp2_with fail
      go_ret
      exact ⟨rfl, hb⟩
set_option maxRecDepth 100000 in
set_option maxHeartbeats 400000 in
theorem D_any (s : ByteArray) (c0 c1 c2 c3 c4 : Value) (w : World) : Calls Tryd.prog 26 #[.string s, .agg #[c0, c1, c2, c3, c4]] w fun e w' => ∃ g, e = .returned (.agg #[.int .i64 8, .int .u64 0, .slice none 0 0, .slice none 0 0, .slice (some ⟨g, 0, none⟩) 1 1]) ∧ w'.heap[g]? = some (.cells #[.string s, c0, c1, c2, c3, c4] 59 (0, 0)) ∧ w.heap.size ≤ g ∧ Below w.heap.size w w' := by
  go_enter Tryd.func26, Tryd.ntmps26
  go_wp2_with fail
  obtain ⟨w1, hw1⟩ : ∃ w1, w.alloc (.cells #[c0, c1, c2, c3, c4] 27) = w1 := ⟨_, rfl⟩
  have b1 : Below w.heap.size w w1 := by rw [← hw1]; exact (Below.refl _ _).alloc (Nat.le_refl _) _
  have s1 : w1.heap.size = w.heap.size + 1 := by rw [← hw1]; simp
  rw [hw1, ← s1]
  have b2 := (Below.refl w1.heap.size w1).alloc (Nat.le_refl _) (.cells #[.int .i64 8, .int .u64 0, .slice none 0 0, .slice none 0 0, .slice (some ⟨w1.heap.size + 1, 0, none⟩) 1 1] 27)
  have q2 := heap_alloc_new w1 (.cells #[.int .i64 8, .int .u64 0, .slice none 0 0, .slice none 0 0, .slice (some ⟨w1.heap.size + 1, 0, none⟩) 1 1] 27)
  have s2 : (w1.alloc (.cells #[.int .i64 8, .int .u64 0, .slice none 0 0, .slice none 0 0, .slice (some ⟨w1.heap.size + 1, 0, none⟩) 1 1] 27)).heap.size = w1.heap.size + 1 := by simp
  generalize w1.alloc _ = w2 at b2 q2 s2 ⊢
  have b3 := (Below.refl w2.heap.size w2).alloc (Nat.le_refl _) (.cells #[.string s, c0, c1, c2, c3, c4] 59)
  have q3 := heap_alloc_new w2 (.cells #[.string s, c0, c1, c2, c3, c4] 59)
  have q23 := blk_below q2 b3
  generalize w2.alloc _ = w3 at b3 q3 q23 ⊢
  have d0 := cell_blk q23 0; have d1 := cell_blk q23 1; have d2 := cell_blk q23 2; have d3 := cell_blk q23 3; have d4 := cell_blk q23 4
  refine bodyPost_ret (v := .agg #[.int .i64 8, .int .u64 0, .slice none 0 0, .slice none 0 0, .slice (some ⟨w1.heap.size + 1, 0, none⟩) 1 1]) (by simp [results, Tryd.results26, go_sem, d0, d1, d2, d3, d4]) rfl ⟨_, rfl, ?_, by omega, below_step (below_step b1 (Nat.le_refl _) b2) (Nat.le_refl _) b3⟩
  rw [← s2]
  exact q3
end Go.Proofs.YtljdfainnmpjnaaDoor

/- The deferred closure of the program's Get. -/
import Derived.Test.YtljdfainnmpjnaaDoorParse
import Derived.Defers
import Derived.Recover
import Derived.Laws.Pointers
set_option linter.unusedVariables false
namespace Go.Proofs.YtljdfainnmpjnaaDoor
open Go.RowKit

theorem assert28 (c : Int) (w : World) : (Instr.typeAssert (.iface 28 (.int .i64 c)) 20 28 true).run Tryd.prog w = .ok (.tuple #[.int .i64 c, .bool true]) w := by
  simp [Instr.typeAssert, run_underlying Tryd.underlying28]
theorem assert_nil (w : World) : (Instr.typeAssert .nilIface 20 28 true).run Tryd.prog w = .ok (.tuple #[.int .i64 0, .bool false]) w := by
  simp [Instr.typeAssert, run_underlying Tryd.underlying28]
set_option maxRecDepth 100000 in
set_option maxHeartbeats 1000000 in
theorem catch_thrown (b q : Nat) (c : Int) (older : List PanicEntry) (w : World) (c0 c1 c2 c3 c4 : Value) (x : Value) (hb : w.heap[b]? = some (.cells #[c0, c1, c2, c3, c4] 27 (0, 0))) (hq : w.heap[q]? = some (.cells #[x] 28 (0, 0))) (hne : q ≠ b) :
    CallsD Tryd.prog 40 #[.pointer (some ⟨b, 0, none⟩), .pointer (some ⟨q, 0, none⟩)] (.panicking ({ v := .iface 28 (.int .i64 c), recovered := false } :: older)) w fun e u' w' =>
      e = .returned (.tuple #[]) ∧ u' = .panicking ({ v := .iface 28 (.int .i64 c), recovered := true } :: older) ∧
      w' = ((((((w.setCell ⟨b, 0, none⟩ (.int .i64 0)).setCell ⟨b, 1, none⟩ (.int .u64 0)).setCell ⟨b, 2, none⟩ (.slice none 0 0)).setCell ⟨b, 3, none⟩ (.slice none 0 0)).setCell ⟨b, 4, none⟩ (.slice none 0 0)).setCell ⟨q, 0, none⟩ (.int .i64 c)) := by
  have e0 := cell_blk hb 0; have e1 := cell_blk hb 1; have e2 := cell_blk hb 2; have e3 := cell_blk hb 3; have e4 := cell_blk hb 4; have eq := cell_blk hq 0
  have f0 := frozen_blk hb 0; have f1 := frozen_blk hb 1; have f2 := frozen_blk hb 2; have f3 := frozen_blk hb 3; have f4 := frozen_blk hb 4; have fq := frozen_blk hq 0
  have ha := fun w => assert28 c w
  have hne2 : ¬ b = q := fun e => hne e.symm
  clear hb hq
  refine callsD_of_wpS Tryd.func40 rfl fun c₀ cs hu => ?_
  apply wpS_seq
  apply wpS_region
  simp [wpOpsS, go_sem, recoverD, hu, Tryd.ntmps40, Exit.thenS]
  refine wpS_of_wp ?_
  simp [List.replicate, Array.replicate]
  go_wp2_with fail
  simp [bodyPostS, results, Tryd.results40]
set_option maxRecDepth 100000 in
set_option maxHeartbeats 1000000 in
theorem catch_idle (b q : Nat) (w : World) :
    CallsD Tryd.prog 40 #[.pointer (some ⟨b, 0, none⟩), .pointer (some ⟨q, 0, none⟩)] .returning w fun e u' w' => e = .returned (.tuple #[]) ∧ u' = .returning ∧ w' = w := by
  have ha := fun w => assert_nil w
  refine callsD_of_wpS Tryd.func40 rfl fun c₀ cs hu => ?_
  apply wpS_seq
  apply wpS_region
  simp [wpOpsS, go_sem, recoverD, hu, Tryd.ntmps40, Exit.thenS]
  refine wpS_of_wp ?_
  simp [List.replicate, Array.replicate]
  go_wp2_with fail
  cases c₀
  simp_all [bodyPostS, results, Tryd.results40]
end Go.Proofs.YtljdfainnmpjnaaDoor

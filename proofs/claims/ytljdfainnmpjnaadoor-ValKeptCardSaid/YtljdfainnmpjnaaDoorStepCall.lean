/- A call of the reader's value, at a step of a region that draws its order. -/
import Derived.Test.YtljdfainnmpjnaaDoorItems
set_option linter.unusedVariables false
namespace Go.Proofs.YtljdfainnmpjnaaDoor
open Go.RowKit

section
variable {ops : Array Oper} {rest : List Oper} {o : Oper} {a : Act} {Q : Exit → Act → World → Prop} {w : World}
/-- A call that returns or throws. -/
def Ends (R : Value → World → Prop) (B : Int → World → Prop) : Ending → World → Prop
  | .returned v, w' => R v w'
  | .panicked c, w' => ∃ e : Int, c = [{ v := .iface 28 (.int .i64 e), recovered := false }] ∧ B e w'
  | .outgrown, _ => False
theorem step_f41 {K : Act → World → Prop} {E : Prop} (hgd : o.guard = none) (x y : Operand) (ts : Array TypeId) (ho : o.op = .call { callee := .value (.func 41), args := #[x, y], argTypes := ts })
    {p : Value} {d : Value} (hx : a.eval x = p) (hy : a.eval y = d) {R : Value → World → Prop} {B : Int → World → Prop} (h : Calls Tryd.prog 41 #[p, d] w (Ends R B))
    (hP : ∀ e w', B e w' → Q (.panic [{ v := .iface 28 (.int .i64 e), recovered := false }]) a w') (hK : ∀ v w', R v w' → K (a.put o.dst v) w') :
    if Region.wanted o (yielded ops a.tmps) = true then Oper.wp Tryd.prog o a w K Q else E := by
  have hw : Region.wanted o (yielded ops a.tmps) = true := by simp [Region.wanted, hgd]
  rw [if_pos hw]
  have e : (execOp a.eval o).run Tryd.prog w = .ok (.enter 41 #[p, d]) w := by
    unfold execOp
    simp only [ho]
    have hf : a.eval (.func 41) = .func (.func 41) #[] #[] := rfl
    simp [resolve, hx, hy, hf, Deferred.ofValue, invoke]
  unfold Oper.wp
  rw [e, Oper.upon_enter]
  refine h.mono ?_
  intro e' w' hr
  cases e' with
  | returned v => exact hK v w' hr
  | panicked c =>
    obtain ⟨e, rfl, h⟩ := hr
    exact hP e w' h
  | outgrown => exact hr.elim
end
end Go.Proofs.YtljdfainnmpjnaaDoor

/- Merged: Tails2. -/
import Derived.Test.YtoabkcalphpkhaaN21
/- What the laws' tails share, more of it. -/
namespace Go.Proofs.Ytoabkcalphpkhaa
open Go Go.Conc Go.RowKit
set_option linter.unusedVariables false
set_option linter.unusedSimpArgs false
set_option linter.unusedSectionVars false
set_option maxRecDepth 100000

/-- What the rest of a law comes to: memory that was there stands, and the answer is true. -/
def restAt (t : Nat) (u : World) (a : Act) (w : World) : Prop := Grown u w ∧ a.tmps.getD t undef = .bool true
/-- Plain functions that the laws' tails call, besides those of S0. -/
def plainT : List FuncId := plainL ++ [47, 32, 33]
def ST : FuncId → Bool := fun f => plainT.contains f
theorem plain_okT : (plainT.all fun f => bodied Try.prog f && (match (Try.prog.funcs[f]?).bind (·.body) with | some c => codeOk Try.prog false ST c | none => false)) = true := by kernel_rfl
theorem listGq : ListOk Try.prog false ST where
  bodied f hf := by
    have := List.all_eq_true.1 plain_okT f (by simpa [ST] using hf)
    simp only [Bool.and_eq_true] at this
    exact this.1
  code f hf c hc := by
    have := List.all_eq_true.1 plain_okT f (by simpa [ST] using hf)
    simp only [Bool.and_eq_true, hc] at this
    exact this.2
  ahead := by kernel_rfl
  ready g := list0.ready g
end Go.Proofs.Ytoabkcalphpkhaa

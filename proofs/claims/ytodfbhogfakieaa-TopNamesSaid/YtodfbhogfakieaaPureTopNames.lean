/- That the printed function of TopNames answers true: evaluated. -/
import Derived.Test.YtodfbhogfakieaaPTopNamesx1
namespace Go.Proofs.Ytodfbhogfakieaa.Pure
open Go.RowKit Go.Proofs.Ytodfbhogfakieaa.PTopNames Go.Proofs.YtodfbhogfakieaaW.PrintWords Go.Proofs.YtodfbhogfakieaaW.PrintLast

/-- YOURS: butlertop_TopNames.f  = some true
What it reaches (each with k first where it has rounds; `.mono`: more rounds tell the same; `.l0`, ..: its loops, with `.mono_l`): butlertop_errors.f, butlertop_limits.f, butlertop_steps.f, butlertop_TopNames.f -/
theorem TopNames : butlertop_TopNames.Pure := by
  show butlertop_TopNames.f = some true
  decide +kernel

end Go.Proofs.Ytodfbhogfakieaa.Pure

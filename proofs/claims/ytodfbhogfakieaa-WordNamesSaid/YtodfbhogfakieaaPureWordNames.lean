/- That the printed function of WordNames answers true: the document's examples, evaluated. -/
import Derived.Test.YtodfbhogfakieaaPWordNamesx2
namespace Go.Proofs.Ytodfbhogfakieaa.Pure
open Go.RowKit Go.Proofs.Ytodfbhogfakieaa.PWordNames Go.Proofs.YtodfbhogfakieaaW.PrintWords Go.Proofs.YtodfbhogfakieaaW.PrintLast

/-- YOURS: ∃ k, butlerlaw01_WordNames.f k  = some true
What it reaches (each with k first where it has rounds; `.mono`: more rounds tell the same; `.l0`, ..: its loops, with `.mono_l`): word_may.f, word_Right.f, word_Get.f, word_Put.f, butlerlaw01_awake.f, butlerlaw01_num.f, butlerlaw01_WordNames.f -/
theorem WordNames : butlerlaw01_WordNames.Pure := by
  exact ⟨70, by decide +kernel⟩

end Go.Proofs.Ytodfbhogfakieaa.Pure

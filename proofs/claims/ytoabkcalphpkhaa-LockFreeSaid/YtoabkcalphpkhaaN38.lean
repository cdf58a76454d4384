/- Merged: RowF7. -/
import Derived.Test.YtoabkcalphpkhaaN36
import Derived.Test.YtoabkcalphpkhaaN37
/- The row of LockFree: for every input the law returns true, and each argument reads behind the call as it read before. -/
namespace Go.Proofs.Ytoabkcalphpkhaa
open Go.ChangeShapes Go.WideShapes Go.ChangeAt Go.RowKit Go.Conc
set_option linter.unusedVariables false
set_option linter.unusedSimpArgs false
namespace lockFree
set_option maxRecDepth 100000 in
theorem lifted (os : Os) (started : os.Started) (H : Type) (enc : TypeId × Value → H) :
    ReturnsInLeavingWide {} Try.checked os 7 .any (Rows.lockFreeSpec.pre6 enc Try.prog Try.f7 Rows.lockFreeRow.domain false) (Rows.lockFreeSpec.post enc Try.prog Try.f7 false true false false) := by
  refine returnsInLeavingWide_of_change_sized (C := Try.checked) own started Try.func7
    (ChangeSpec.witness6 (enc := enc) (C := Try.checked) false ⟨#[], #[.slice none 0 0], []⟩ 8 (by kernel_rfl) (by kernel_rfl) (by kernel_rfl) (by kernel_rfl)) ?_
  intro W base args ds gs before hval0 hW hcnd hsz0 _
  have hsz : (DataW.weightsEach Try.prog (Try.f7.params.toList ++ Rows.lockFreeSpec.plain.varTypes Try.prog) (ds ++ gs)).all (· ≤ reachBytes) = true := hsz0
  have hval : ∀ (j : Nat) t v, Try.f7.params[j]? = some t → args[j]? = some v → Value.okWide Try.prog W .any base t v := hval0
  have hW' := hW
  obtain ⟨p, q, hA0, hV, rfl, hfz, hnd⟩ := hW
  have hA : DataW.TrodAll enc Try.prog W 0 (fun _ => true) true Try.f7.params.toList args.toList ds p := hA0
  rw [Try.params7] at hA hval hsz
  obtain ⟨v0, vs0, d0, ds0, p0, q0, hargs, rfl, rfl, h0, r0⟩ := trodAll_cons hA
  obtain ⟨rfl, rfl, rfl⟩ := trodAll_nil r0
  obtain rfl : args = #[v0] := by cases args; simp_all
  obtain ⟨rfl, rfl⟩ := trodVars_none hV
  obtain ⟨a0, len0, cap0, rfl⟩ := okWide_slice Try.underlying32 (hval 0 32 v0 rfl rfl)
  have k0 := h0
  have lt0 : ∀ x ∈ p0, x.block < W.heap.size := by obtain ⟨m, hm⟩ := k0; exact DataW.trod_lt m _ _ _ hm
  have y0 : len0 * 32 ≤ 140737488351232 := calls_few hsz (j := 0) rfl rfl h0
  obtain ⟨x0, rfl, hx0, hi0⟩ := script_in h0.choose_spec
  clear hA0 hval0 hsz0 hsz
  refine ends_of_wn (f := 7) (args := #[.slice a0 x0.length cap0]) ?_
  refine free7 (Post := fun v W' => Rows.lockFreeSpec.post enc Try.prog Try.f7 false true false false W #[.slice a0 x0.length cap0] v W') (u := W) (by omega) hx0 hi0 (fun w bel => ?_)
  exact ⟨_, _, _, [], _, [], hW', trodAll_mk1 (shut_bool Try.underlying4 _), (trodAll_cons_mk (Grown.trod laidOut (by kernel_rfl) (of_decide_eq_true (by kernel_rfl)) k0 bel lt0) trodAll_mk0), rfl, bel.frame _, fun h => by cases h⟩
theorem over : Rows.lockFreeRow.holds Try.pinned (OpenSpec.ofChange Rows.lockFreeSpec) :=
  OpenClaim.holds_of_wide_leaving 7 Try.f7 rfl rfl rfl rfl rfl rfl rfl ⟨rfl, rfl, rfl, rfl, rfl⟩ rfl rfl rfl rfl rfl (by kernel_rfl) Try.func7 (by kernel_rfl)
    (of_decide_eq_true (by kernel_rfl)) (by unfold Func.isWrapper; first | (rw [if_pos (by decide +kernel)]; kernel_rfl) | (rw [if_neg (by decide +kernel)]; exact ⟨rfl, rfl⟩))
    (fun os started H enc _ => lifted os started H enc)
theorem proved : Rows.LockFreeSaid := over
end lockFree
/-- The row, under a short name, for the claim. -/
theorem lockFree_holds : Rows.LockFreeSaid := lockFree.proved
end Go.Proofs.Ytoabkcalphpkhaa

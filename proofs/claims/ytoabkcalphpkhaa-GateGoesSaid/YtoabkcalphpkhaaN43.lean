/- Merged: RowG14. -/
import Derived.Test.YtoabkcalphpkhaaN42
/- The row of GateGoes: for every input the law returns true, and each argument reads behind the call as it read before. -/
namespace Go.Proofs.Ytoabkcalphpkhaa
open Go.ChangeShapes Go.WideShapes Go.ChangeAt Go.RowKit Go.Conc
set_option linter.unusedVariables false
set_option linter.unusedSimpArgs false
namespace gateGoes
set_option maxRecDepth 100000 in
theorem lifted (os : Os) (started : os.Started) (H : Type) (enc : TypeId × Value → H) :
    ReturnsInLeavingWide {} Try.checked os 14 .any (Rows.gateGoesSpec.pre6 enc Try.prog Try.f14 Rows.gateGoesRow.domain false) (Rows.gateGoesSpec.post enc Try.prog Try.f14 false true false false) := by
  refine returnsInLeavingWide_of_change_sized (C := Try.checked) own started Try.func14
    (ChangeSpec.witness6 (enc := enc) (C := Try.checked) false ⟨#[], #[.slice none 0 0, .slice none 0 0], []⟩ 8 (by kernel_rfl) (by kernel_rfl) (by kernel_rfl) (by kernel_rfl)) ?_
  intro W base args ds gs before hval0 hW hcnd hsz0 _
  have hsz : (DataW.weightsEach Try.prog (Try.f14.params.toList ++ Rows.gateGoesSpec.plain.varTypes Try.prog) (ds ++ gs)).all (· ≤ reachBytes) = true := hsz0
  have hval : ∀ (j : Nat) t v, Try.f14.params[j]? = some t → args[j]? = some v → Value.okWide Try.prog W .any base t v := hval0
  have hW' := hW
  obtain ⟨p, q, hA0, hV, rfl, hfz, hnd⟩ := hW
  have hA : DataW.TrodAll enc Try.prog W 0 (fun _ => true) true Try.f14.params.toList args.toList ds p := hA0
  rw [Try.params14] at hA hval hsz
  obtain ⟨v0, vs0, d0, ds0, p0, q0, hargs, rfl, rfl, h0, r0⟩ := trodAll_cons hA
  obtain ⟨v1, vs1, d1, ds1, p1, q1, rfl, rfl, rfl, h1, r1⟩ := trodAll_cons r0
  obtain ⟨rfl, rfl, rfl⟩ := trodAll_nil r1
  obtain rfl : args = #[v0, v1] := by cases args; simp_all
  obtain ⟨rfl, rfl⟩ := trodVars_none hV
  obtain ⟨a0, len0, cap0, rfl⟩ := okWide_slice Try.underlying22 (hval 0 22 v0 rfl rfl)
  have k0 := h0
  have lt0 : ∀ x ∈ p0, x.block < W.heap.size := by obtain ⟨m, hm⟩ := k0; exact DataW.trod_lt m _ _ _ hm
  obtain ⟨a1, len1, cap1, rfl⟩ := okWide_slice Try.underlying62 (hval 1 62 v1 rfl rfl)
  have k1 := h1
  have lt1 : ∀ x ∈ p1, x.block < W.heap.size := by obtain ⟨m, hm⟩ := k1; exact DataW.trod_lt m _ _ _ hm
  have y0 : len0 * 8 ≤ 140737488351232 := Go.Proofs.YtoabkcalphpkhaaW.PrintWords.sized_ints hsz (j := 0) (t := 22) rfl rfl Try.underlying22 Try.underlying3 (by kernel_rfl) (by kernel_rfl) h0
  have y1 : len1 * 24 ≤ 140737488351232 := rows_few hsz (j := 1) rfl rfl h1
  obtain ⟨x0, rfl, hx0, hi0⟩ := ints_in h0.choose_spec
  obtain ⟨x1, rfl, hx1, hi1⟩ := rows_in h1.choose_spec
  clear hA0 hval0 hsz0 hsz
  refine ends_of_wn (f := 14) (args := #[.slice a0 x0.length cap0, .slice a1 x1.length cap1]) ?_
  refine goes14 (Post := fun v W' => Rows.gateGoesSpec.post enc Try.prog Try.f14 false true false false W #[.slice a0 x0.length cap0, .slice a1 x1.length cap1] v W') (u := W) hx0 (by omega) hx1 (by omega) (fun w bel => ?_)
  exact ⟨_, _, _, [], _, [], hW', trodAll_mk1 (shut_bool Try.underlying4 _), (trodAll_cons_mk (Grown.trod laidOut (by kernel_rfl) (of_decide_eq_true (by kernel_rfl)) k0 bel lt0) (trodAll_cons_mk (Grown.trod laidOut (by kernel_rfl) (of_decide_eq_true (by kernel_rfl)) k1 bel lt1) trodAll_mk0)), rfl, bel.frame _, fun h => by cases h⟩
theorem over : Rows.gateGoesRow.holds Try.pinned (OpenSpec.ofChange Rows.gateGoesSpec) :=
  OpenClaim.holds_of_wide_leaving 14 Try.f14 rfl rfl rfl rfl rfl rfl rfl ⟨rfl, rfl, rfl, rfl, rfl⟩ rfl rfl rfl rfl rfl (by kernel_rfl) Try.func14 (by kernel_rfl)
    (of_decide_eq_true (by kernel_rfl)) (by unfold Func.isWrapper; first | (rw [if_pos (by decide +kernel)]; kernel_rfl) | (rw [if_neg (by decide +kernel)]; exact ⟨rfl, rfl⟩))
    (fun os started H enc _ => lifted os started H enc)
theorem proved : Rows.GateGoesSaid := over
end gateGoes
/-- The row, under a short name, for the claim. -/
theorem gateGoes_holds : Rows.GateGoesSaid := gateGoes.proved
end Go.Proofs.Ytoabkcalphpkhaa

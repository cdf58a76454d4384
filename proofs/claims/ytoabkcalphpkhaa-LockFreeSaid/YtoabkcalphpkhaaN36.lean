/- Merged: RowN6, Reads2. -/
import Derived.Test.YtoabkcalphpkhaaN22
import Derived.Test.YtoabkcalphpkhaaN35
/- The row of LockNames: for every input the law returns true, and each argument reads behind the call as it read before. -/
namespace Go.Proofs.Ytoabkcalphpkhaa
open Go.ChangeShapes Go.WideShapes Go.ChangeAt Go.RowKit Go.Conc
set_option linter.unusedVariables false
set_option linter.unusedSimpArgs false
namespace lockNames
set_option maxRecDepth 100000 in
theorem lifted (os : Os) (started : os.Started) (H : Type) (enc : TypeId × Value → H) :
    ReturnsInLeavingWide {} Try.checked os 6 .any (Rows.lockNamesSpec.pre6 enc Try.prog Try.f6 Rows.lockNamesRow.domain false) (Rows.lockNamesSpec.post enc Try.prog Try.f6 false true false false) := by
  refine returnsInLeavingWide_of_change_sized (C := Try.checked) own started Try.func6
    (ChangeSpec.witness6 (enc := enc) (C := Try.checked) false ⟨#[], #[], []⟩ 8 (by kernel_rfl) (by kernel_rfl) (by kernel_rfl) (by kernel_rfl)) ?_
  intro W base args ds gs before hval0 hW hcnd hsz0 _
  have hsz : (DataW.weightsEach Try.prog (Try.f6.params.toList ++ Rows.lockNamesSpec.plain.varTypes Try.prog) (ds ++ gs)).all (· ≤ reachBytes) = true := hsz0
  have hval : ∀ (j : Nat) t v, Try.f6.params[j]? = some t → args[j]? = some v → Value.okWide Try.prog W .any base t v := hval0
  have hW' := hW
  obtain ⟨p, q, hA0, hV, rfl, hfz, hnd⟩ := hW
  have hA : DataW.TrodAll enc Try.prog W 0 (fun _ => true) true Try.f6.params.toList args.toList ds p := hA0
  rw [Try.params6] at hA hval hsz
  obtain ⟨rfl, rfl, rfl⟩ := trodAll_none hA
  obtain ⟨rfl, rfl⟩ := trodVars_none hV
  clear hA0 hval0 hsz0 hsz
  refine ends_of_wn (f := 6) (args := #[]) ?_
  refine names6 (Post := fun v W' => Rows.lockNamesSpec.post enc Try.prog Try.f6 false true false false W #[] v W') (u := W) (fun w bel => ?_)
  exact ⟨_, _, _, [], _, [], hW', trodAll_mk1 (shut_bool Try.underlying4 _), trodAll_mk0, rfl, bel.frame _, fun h => by cases h⟩
theorem over : Rows.lockNamesRow.holds Try.pinned (OpenSpec.ofChange Rows.lockNamesSpec) :=
  OpenClaim.holds_of_wide_leaving 6 Try.f6 rfl rfl rfl rfl rfl rfl rfl ⟨rfl, rfl, rfl, rfl, rfl⟩ rfl rfl rfl rfl rfl (by kernel_rfl) Try.func6 (by kernel_rfl)
    (of_decide_eq_true (by kernel_rfl)) (by unfold Func.isWrapper; first | (rw [if_pos (by decide +kernel)]; kernel_rfl) | (rw [if_neg (by decide +kernel)]; exact ⟨rfl, rfl⟩))
    (fun os started H enc _ => lifted os started H enc)
theorem proved : Rows.LockNamesSaid := over
end lockNames
/-- The row, under a short name, for the claim. -/
theorem lockNames_holds : Rows.LockNamesSaid := lockNames.proved
end Go.Proofs.Ytoabkcalphpkhaa

/- Calls as an argument: not too many. -/
namespace Go.Proofs.Ytoabkcalphpkhaa
open Go.ChangeShapes Go.WideShapes Go.ChangeAt Go.RowKit Go.Conc Go.Deep
set_option linter.unusedVariables false
set_option linter.unusedSimpArgs false
set_option maxRecDepth 100000
section
variable {H : Type} {enc : TypeId × Value → H} {W : World} {sp : Nat → Bool} {held : Bool}
/-- .. calls. -/
theorem calls_few {A : Option Addr} {len cap : Nat} {d : DataW H} {ps : List MemPlace} {ts : List TypeId} {ds : List (DataW H)} {j : Nat} (hsz : (DataW.weightsEach Try.prog ts ds).all (· ≤ reachBytes) = true) (ht : ts[j]? = some 32) (hd : ds[j]? = some d) (h : DataW.Trod enc Try.prog W 0 sp held 32 (.slice A len cap) d ps) : len * 32 ≤ 140737488351232 := by
  obtain ⟨fuel, hf⟩ := h
  rcases open_slice Try.underlying32 hf with ⟨hcs, _⟩ | ⟨a, len', cap', m, n, D, Pl, hcs, hb, hl, hm, hmm, hx, _⟩
  · simp [Value.cells] at hcs
    omega
  · simp [Value.cells] at hcs
    obtain ⟨rfl, rfl, rfl⟩ := hcs
    obtain ⟨hx, _⟩ := Prod.mk.inj hx
    subst hx
    have z := sized_slice hsz ht hd Try.underlying32
    have hb : Try.prog.bytesOf 36 = 32 := by kernel_rfl
    rw [hb] at z
    have hr : reachBytes = 140737488351232 := by decide
    rw [hr] at z
    simp only [List.length_map, List.length_range] at z
    omega
end
end Go.Proofs.Ytoabkcalphpkhaa

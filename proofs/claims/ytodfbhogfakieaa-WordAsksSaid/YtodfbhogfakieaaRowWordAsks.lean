/- The row of WordAsks: for every input the law returns true, and each argument reads behind the call as it read before. No further condition. -/
import Derived.Test.YtodfbhogfakieaaRows
import Derived.Test.YtodfbhogfakieaaKWordAsks
import Derived.WalkKit
import Derived.ProofKit
import Derived.OpenShut
import Derived.ShutString
import Derived.ChangeOld
import Derived.Below
import Derived.SizedLaws
import Derived.RowKit3
import Derived.Lib.SmallJoins
import Derived.Deep.SlicePairs
namespace Go.Proofs.Ytodfbhogfakieaa.wordAsks
open Go.ChangeShapes Go.WideShapes Go.ChangeAt Go.RowKit Go.Joins Go.Deep
open Go.Proofs.YtodfbhogfakieaaW.PrintWords Go.Proofs.Ytodfbhogfakieaa.PWordAsks
set_option linter.unusedVariables false
theorem own : ownKnob Try.prog.godebug = none := by kernel_rfl
theorem laidOut : laidOutB Try.prog = true := by kernel_rfl
theorem cells26 : Try.prog.cellsOf 26 = 2 := by kernel_rfl
theorem wf_i64 {n : Int} (h : (Lit.int .i64 n).wf = true) : Math.I64 n := by
  simp only [Lit.wf, IntKind.min, IntKind.max, IntKind.signed, IntKind.bits, Bool.and_eq_true, decide_eq_true_eq, if_true] at h
  unfold Math.I64
  omega
theorem field_reads {H : Type} {enc : TypeId × Value → H} (W : World) {sp : Nat → Bool} {held : Bool} {a b : Int} (wa : (Lit.int .i64 a).wf = true) (wb : (Lit.int .i64 b).wf = true) :
    DataW.Trod enc Try.prog W 0 sp held 26 (.agg #[.int .i64 a, .int .i64 b]) (.agg [.lit (.int .i64 a), .lit (.int .i64 b)]) [] :=
  shut_agg2 (y0 := (.lit (.int .i64 a), [])) (y1 := (.lit (.int .i64 b), [])) Try.underlying26 (by kernel_rfl) cells26 ⟨1, by simp [DataW.trod, Try.underlying3, wa]⟩ ⟨1, by simp [DataW.trod, Try.underlying3, wb]⟩
/-- A list of fields that came in. -/
theorem fields_in {H : Type} {enc : TypeId × Value → H} {W : World} {sp : Nat → Bool} {held : Bool} {A : Option Addr} {len cap : Nat} {d : DataW H} {ps : List MemPlace} {ts : List TypeId} {ds : List (DataW H)} {j : Nat}
    (hsz : (DataW.weightsEach Try.prog ts ds).all (· ≤ reachBytes) = true) (ht : ts[j]? = some 27) (hd : ds[j]? = some d) (h : DataW.Trod enc Try.prog W 0 sp held 27 (.slice A len cap) d ps) :
    ∃ l : List S26, l.length = len ∧ len ≤ cap ∧ (len + 1) * 16 ≤ 281474976710656 ∧ Kd.C k26 W A len l ∧ ∀ f ∈ l, Math.I64 f.f1 := by
  obtain ⟨fuel, hf⟩ := h
  rcases open_slice_pairs Try.underlying27 Try.underlying26 cells26 rfl rfl (by kernel_rfl) (by kernel_rfl) hf with ⟨hcs, _⟩ | ⟨a, l, c, m, n, V0, V1, D0, D1, P0, P1, hcs, _, hl, hm, hmm, hx, hall⟩
  · simp [Value.cells] at hcs
    obtain ⟨rfl, rfl, rfl⟩ := hcs
    exact ⟨[], rfl, Nat.le_refl _, by decide, ⟨rfl, by decide, fun h => absurd h (by decide)⟩, fun f hf => by cases hf⟩
  · simp [Value.cells] at hcs
    obtain ⟨rfl, rfl, rfl⟩ := hcs
    obtain ⟨hx, _⟩ := Prod.mk.inj hx
    subst hx
    have hlm : len ≤ m := by rw [hmm]; split <;> omega
    have each : ∀ i, i < m → ∃ q : Int × Int, W.cell? (a.add (i * 2)) = some (.int .i64 q.1) ∧ W.cell? (a.add (i * 2 + 1)) = some (.int .i64 q.2) ∧ Math.I64 q.2 := by
      intro i hi
      obtain ⟨h0, h1, t0, t1⟩ := hall i hi
      obtain ⟨x0, e0, _, w0⟩ := DataW.trod_int Try.underlying3 t0
      obtain ⟨x1, e1, _, w1⟩ := DataW.trod_int Try.underlying3 t1
      simp at e0 e1
      exact ⟨(x0, x1), by rw [h0, e0], by rw [h1, e1], wf_i64 w1⟩
    obtain ⟨q, hq⟩ := choose_lt each
    have z := sized_slice hsz ht hd Try.underlying27
    have hb : Try.prog.bytesOf 26 = 16 := by kernel_rfl
    rw [hb] at z
    have hr : reachBytes = 140737488351232 := by decide
    rw [hr] at z
    simp only [List.length_map, List.length_range] at z
    have hml : maxLen ≤ 9223372036854775807 := by decide
    refine ⟨(List.range len).map fun i => ⟨(q i).1, (q i).2⟩, by simp, hl, by omega, ⟨by simp, by omega, fun hpos => ⟨a, rfl, fun i p hp => ?_⟩⟩, fun f hf => ?_⟩
    · rw [List.getElem?_map] at hp
      obtain ⟨i', hi', rfl⟩ := Option.map_eq_some_iff.1 hp
      obtain ⟨hil, he⟩ := List.getElem?_eq_some_iff.1 hi'
      simp only [List.getElem_range] at he
      subst he
      simp only [List.length_range] at hil
      obtain ⟨h0, h1, _⟩ := hq i (by omega)
      refine ⟨_, rfl, k26_mk W _, fun j u hu => ?_⟩
      match j, hu with
      | 0, hu => simp at hu; subst hu; exact h0
      | 1, hu => simp at hu; subst hu; exact h1
    · obtain ⟨i, hi, rfl⟩ := List.mem_map.1 hf
      exact (hq i (by have := List.mem_range.1 hi; omega)).2.2
set_option maxRecDepth 100000 in
theorem lifted (os : Os) (started : os.Started) (H : Type) (enc : TypeId × Value → H) :
    ReturnsInHanded {} Try.checked os 4 .any (Rows.wordAsksSpec.pre6 enc Try.prog Try.f4 Rows.wordAsksRow.domain false) (Rows.wordAsksSpec.post enc Try.prog Try.f4 false true false false) := by
  refine returnsInHanded_of_change_sized (C := Try.checked) own started (by kernel_rfl) Try.func4
    (ChangeSpec.witness6 (enc := enc) (C := Try.checked) false ⟨#[], #[.int .i64 0, .agg #[.int .i64 0, .int .i64 0], .int .i64 0, .slice none 0 0], []⟩ 8 (by kernel_rfl) (by kernel_rfl) (by kernel_rfl) (by kernel_rfl)) ?_
  intro W base args ds gs before hval0 hW hcnd hsz0 _
  have hsz : (DataW.weightsEach Try.prog (Try.f4.params.toList ++ Rows.wordAsksSpec.plain.varTypes Try.prog) (ds ++ gs)).all (· ≤ reachBytes) = true := hsz0
  have hval : ∀ (j : Nat) t v, Try.f4.params[j]? = some t → args[j]? = some v → Value.okWide Try.prog W .any base t v := hval0
  have hW' := hW
  obtain ⟨p, q, hA0, hV, rfl, hfz, hnd⟩ := hW
  have hA : DataW.TrodAll enc Try.prog W 0 (fun _ => true) true Try.f4.params.toList args.toList ds p := hA0
  rw [Try.params4] at hA hval hsz
  obtain ⟨v0, vs0, d0, ds0, p0, q0, hargs, rfl, rfl, h0, r0⟩ := trodAll_cons hA
  obtain ⟨v1, vs1, d1, ds1, p1, q1, rfl, rfl, rfl, h1, r1⟩ := trodAll_cons r0
  obtain ⟨v2, vs2, d2, ds2, p2, q2, rfl, rfl, rfl, h2, r2⟩ := trodAll_cons r1
  obtain ⟨v3, vs3, d3, ds3, p3, q3, rfl, rfl, rfl, h3, r3⟩ := trodAll_cons r2
  obtain ⟨rfl, rfl, rfl⟩ := trodAll_nil r3
  obtain rfl : args = #[v0, v1, v2, v3] := by cases args; simp_all
  obtain ⟨rfl, rfl⟩ := trodVars_none hV
  obtain ⟨a0, rfl, rfl, rfl, w0⟩ := open_int Try.underlying3 (hval 0 3 v0 rfl rfl) h0
  obtain ⟨c10, c11, y10, y11, m1, rfl, rfl, rfl, hy10, hy11⟩ := open_agg2 Try.underlying26 (by kernel_rfl) cells26 (hval 1 26 v1 rfl rfl) h1
  obtain ⟨a1_0, e10, rfl, w1_0⟩ := DataW.trod_int Try.underlying3 hy10
  obtain ⟨a1_1, e11, rfl, w1_1⟩ := DataW.trod_int Try.underlying3 hy11
  simp at e10 e11
  subst e10 e11
  obtain ⟨a2, rfl, rfl, rfl, w2⟩ := open_int Try.underlying3 (hval 2 3 v2 rfl rfl) h2
  obtain ⟨a3, len3, cap3, rfl⟩ := okWide_slice Try.underlying27 (hval 3 27 v3 rfl rfl)
  have k3 := h3
  have lt3 : ∀ x ∈ p3, x.block < W.heap.size := by obtain ⟨m, hm⟩ := k3; exact DataW.trod_lt m _ _ _ hm
  obtain ⟨l, hll, hlc, hbig, hC, hI⟩ := fields_in hsz (j := 3) rfl rfl h3
  clear hA0 hval0 hsz0 hsz
  obtain ⟨k, ra, rb, rd, re, g0, g1, g2, g3, g4, g5, g6⟩ := FWordAsks.all_asks a0 a1_0 a1_1 a2 l (wf_i64 w1_1) (by omega) hI
  refine (law_walk k a0 a1_0 a1_1 a2 a3 len3 cap3 l hll hlc hbig W hC ra rb rd re g0 g1 g2 g3 g4 g5 g6).mono fun e W' ⟨he, bel⟩ => ?_
  subst he
  exact ⟨_, rfl, _, _, _, [], _, [], hW', trodAll_mk1 (shut_bool Try.underlying4 _), (trodAll_cons_mk (shut_int Try.underlying3 w0) (trodAll_cons_mk (field_reads _ w1_0 w1_1) (trodAll_cons_mk (shut_int Try.underlying3 w2) (trodAll_cons_mk (Below.trod laidOut (by kernel_rfl) (of_decide_eq_true (by kernel_rfl)) k3 bel lt3) trodAll_mk0)))), rfl, bel.frame _, fun h => by cases h⟩
theorem over : Rows.wordAsksRow.holds Try.pinned (OpenSpec.ofChange Rows.wordAsksSpec) :=
  OpenClaim.holds_of_wide 4 Try.f4 rfl rfl rfl rfl rfl rfl rfl ⟨rfl, rfl, rfl, rfl, rfl⟩ rfl rfl rfl rfl rfl (by kernel_rfl) Try.func4 (by kernel_rfl)
    (of_decide_eq_true (by kernel_rfl)) (by unfold Func.isWrapper; first | (rw [if_pos (by decide +kernel)]; kernel_rfl) | (rw [if_neg (by decide +kernel)]; exact ⟨rfl, rfl⟩))
    (fun os started H enc _ => lifted os started H enc)
end Go.Proofs.Ytodfbhogfakieaa.wordAsks
namespace Go.Proofs.Ytodfbhogfakieaa
/-- The row, under a short name, for the claim. -/
theorem wordAsks_holds : Rows.WordAsksSaid := wordAsks.over
end Go.Proofs.Ytodfbhogfakieaa

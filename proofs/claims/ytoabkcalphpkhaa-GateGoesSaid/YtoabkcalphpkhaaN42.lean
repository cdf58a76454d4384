/- Merged: Reads3. -/
import Derived.Test.YtoabkcalphpkhaaN22
import Derived.Test.YtoabkcalphpkhaaN41
/- Rows of numbers as an argument. -/
namespace Go.Proofs.Ytoabkcalphpkhaa
open Go.ChangeShapes Go.WideShapes Go.ChangeAt Go.RowKit Go.Conc Go.Deep
set_option linter.unusedVariables false
set_option linter.unusedSimpArgs false
set_option maxRecDepth 100000
theorem ints_cells {u : World} {A : Option Addr} {l : List Int} {n : Nat} (h : kI.C u A n l) (hn : l.length = n) : l.length ≤ 9223372036854775807 ∧ ∀ k, k < l.length → ∃ bd, A = some bd ∧ u.cell? (bd.add k) = some (num (l.getD k 0)) := by
  refine ⟨by have := h.2.1; omega, fun k hk => ?_⟩
  have hp : l[k]? = some l[k] := List.getElem?_eq_getElem hk
  obtain ⟨ad, e, hh⟩ := h.2.2 (by omega)
  obtain ⟨cc, _, hR, hcell⟩ := hh k _ hp
  have hR : cc = [num l[k]] := hR
  rw [hR] at hcell
  have := hcell 0 _ rfl
  have e1 : k * kI.sz + 0 = k := by show k * 1 + 0 = k; omega
  rw [e1] at this
  refine ⟨ad, e, ?_⟩
  rw [List.getD_eq_getElem?_getD, hp]
  exact this
section
variable {H : Type} {enc : TypeId × Value → H} {W : World} {sp : Nat → Bool} {held : Bool}
theorem rows_in {A : Option Addr} {len cap fuel : Nat} {x : DataW H × List MemPlace} (h : DataW.trod enc Try.prog W 0 sp held fuel 62 [.slice A len cap] = some x) :
    ∃ l : List (List Int), l.length = len ∧ RawAt W A l ∧ len ≤ cap := by
  rcases open_slice Try.underlying62 h with ⟨hcs, _⟩ | ⟨a, len', cap', m, n, D, Pl, hcs, hb, hl, hm, hmm, _, hx⟩
  · simp at hcs
    obtain ⟨rfl, rfl, rfl⟩ := hcs
    exact ⟨[], rfl, fun i c hc => (by cases hc), Nat.le_refl _⟩
  · simp at hcs
    obtain ⟨rfl, rfl, rfl⟩ := hcs
    have hlm : len ≤ m := by rw [hmm]; split <;> omega
    have ce : Try.prog.cellsOf 22 = 1 := by kernel_rfl
    have each : ∀ i, i < len → ∃ q : List Int, q.length ≤ 9223372036854775807 ∧ ∃ B cp, W.cell? (a.add i) = some (.slice B q.length cp) ∧ ∀ k, k < q.length → ∃ bd, B = some bd ∧ W.cell? (bd.add k) = some (num (q.getD k 0)) := by
      intro i hi
      obtain ⟨cs', h1, h2⟩ := hx i (by omega)
      rw [ce, Nat.mul_one] at h1
      obtain ⟨_, hlen, hcell⟩ := World.cells?_some h1
      match cs', hlen with
      | [v], _ =>
        have k0 := hcell 0 (by omega)
        have e0 : (a.add i).add 0 = a.add i := by simp [Addr.add]
        rw [e0] at k0
        have hv : ∃ B l c, v = .slice B l c := by
          rcases open_slice Try.underlying22 h2 with ⟨h3, _⟩ | ⟨a3, l3, c3, _, _, _, _, h3, _⟩
          · simp at h3; exact ⟨_, _, _, h3⟩
          · simp at h3; exact ⟨_, _, _, h3⟩
        obtain ⟨B, l3, c3, rfl⟩ := hv
        obtain ⟨q, hq1, hq2, hq3⟩ := ints_in h2
        subst hq1
        obtain ⟨g1, g2⟩ := ints_cells hq2 rfl
        exact ⟨q, g1, B, c3, by simpa using k0, g2⟩
    obtain ⟨q, hq⟩ := choose_lt each
    refine ⟨(List.range len).map q, by simp, fun i s hs => ?_, hl⟩
    rw [List.getElem?_map] at hs
    obtain ⟨i', hi', rfl⟩ := Option.map_eq_some_iff.1 hs
    obtain ⟨hil, he⟩ := List.getElem?_eq_some_iff.1 hi'
    simp only [List.getElem_range] at he
    subst he
    simp only [List.length_range] at hil
    obtain ⟨h0, B, cp, h1, h2⟩ := hq i hil
    exact ⟨h0, a, B, cp, rfl, h1, h2⟩
theorem rows_few {A : Option Addr} {len cap : Nat} {d : DataW H} {ps : List MemPlace} {ts : List TypeId} {ds : List (DataW H)} {j : Nat} (hsz : (DataW.weightsEach Try.prog ts ds).all (· ≤ reachBytes) = true) (ht : ts[j]? = some 62) (hd : ds[j]? = some d) (h : DataW.Trod enc Try.prog W 0 sp held 62 (.slice A len cap) d ps) : len * 24 ≤ 140737488351232 := by
  obtain ⟨fuel, hf⟩ := h
  rcases open_slice Try.underlying62 hf with ⟨hcs, _⟩ | ⟨a, len', cap', m, n, D, Pl, hcs, hb, hl, hm, hmm, hx, _⟩
  · simp [Value.cells] at hcs
    omega
  · simp [Value.cells] at hcs
    obtain ⟨rfl, rfl, rfl⟩ := hcs
    obtain ⟨hx, _⟩ := Prod.mk.inj hx
    subst hx
    have z := sized_slice hsz ht hd Try.underlying62
    have hb : Try.prog.bytesOf 22 = 24 := by kernel_rfl
    rw [hb] at z
    have hr : reachBytes = 140737488351232 := by decide
    rw [hr] at z
    simp only [List.length_map, List.length_range] at z
    omega
end
end Go.Proofs.Ytoabkcalphpkhaa

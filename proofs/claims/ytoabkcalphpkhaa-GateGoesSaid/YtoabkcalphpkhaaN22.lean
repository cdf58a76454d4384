/- Merged: Reads. -/
import Derived.Test.YtoabkcalphpkhaaRows
import Derived.Test.YtoabkcalphpkhaaN21
import Derived.Test.YtoabkcalphpkhaaWSized
import Derived.WalkKit
import Derived.ProofKit
import Derived.OpenShut
import Derived.ChangeOld
import Derived.Below
import Derived.Carry
import Derived.SizedLaws
import Derived.Deep.SlicePairs
/- Scripts that come in, as they are read; what the rows share. -/
namespace Go.Proofs.Ytoabkcalphpkhaa
open Go.ChangeShapes Go.WideShapes Go.ChangeAt Go.RowKit Go.Conc Go.Deep
set_option linter.unusedVariables false
set_option linter.unusedSimpArgs false
set_option maxRecDepth 100000
instance : Inhabited Cal := ⟨⟨0, 0, 0, 0⟩⟩
theorem own : ownKnob Try.prog.godebug = none := by kernel_rfl
theorem laidOut : laidOutB Try.prog = true := by kernel_rfl
theorem Grown.below {W w : World} (h : Grown W w) : Below W.heap.size W { w with tape := W.tape } := ⟨h.os, rfl, h.out, h.size, fun k hk => h.blk k hk⟩
theorem Grown.frame {W w : World} (h : Grown W w) (may : MemPlace → Prop) : W.keptBut w may := h.below.frame may
theorem Grown.trod {H : Type} {enc : TypeId × Value → H} {P : Program} {t : TypeId} (hl : laidOutB P = true) (hr : P.readableRec t = true) (hrow : t < P.types.size) {W W' : World} {v : Value} {d : DataW H} {ps : List MemPlace}
    (h : DataW.Trod enc P W 0 (fun _ => true) true t v d ps) (hb : Grown W W') (hlt : ∀ x ∈ ps, x.block < W.heap.size) : DataW.Trod enc P W' 0 (fun b => decide (b < W.heap.size)) true t v d ps :=
  WideElems.Trod_stays hl hr hrow h (fun x hx => (hb.below.same (hlt x hx) : W.sameAt { W' with tape := W.tape } x)) (fun x hx => by simpa using hlt x hx)
theorem wf_in64 {n : Int} (h : (Lit.int .i64 n).wf = true) : In64 n := by
  unfold In64
  simp [Lit.wf, IntKind.wrap, IntKind.min, IntKind.max, IntKind.bits, IntKind.signed] at h
  omega
section
variable {H : Type} {enc : TypeId × Value → H} {W : World} {sp : Nat → Bool} {held : Bool}
/-- Whole numbers that came in. -/
theorem ints_in {A : Option Addr} {len cap fuel : Nat} {x : DataW H × List MemPlace} (h : DataW.trod enc Try.prog W 0 sp held fuel 22 [.slice A len cap] = some x) :
    ∃ l : List Int, l.length = len ∧ kI.C W A len l ∧ ∀ v ∈ l, In64 v := by
  rcases open_ints Try.underlying22 Try.underlying3 (by kernel_rfl) h with ⟨hcs, _⟩ | ⟨a, l, c, zs, hcs, _, hl, hm, hz, _, hcell, hwz⟩
  · simp at hcs
    obtain ⟨rfl, rfl, rfl⟩ := hcs
    exact ⟨[], rfl, ⟨rfl, by decide, fun h => absurd h (by decide)⟩, fun v hv => by cases hv⟩
  · simp at hcs
    obtain ⟨rfl, rfl, rfl⟩ := hcs
    have hzl : len ≤ zs.length := by rw [hz]; split <;> omega
    have hml : maxLen ≤ 9223372036854775807 := by decide
    have htl : (zs.take len).length = len := by rw [List.length_take]; omega
    refine ⟨zs.take len, htl, ⟨htl, by omega, fun hn => ⟨a, rfl, fun i p hp => ?_⟩⟩, fun v hv => wf_in64 (hwz v (List.mem_of_mem_take hv))⟩
    rw [List.getElem?_take] at hp
    split at hp
    · have hlt := (List.getElem?_eq_some_iff.1 hp).1
      have hc := hcell i hlt
      rw [List.getD_eq_getElem?_getD, hp] at hc
      refine ⟨[num p], rfl, rfl, fun j v hj => ?_⟩
      match j, hj with
      | 0, hj =>
        obtain rfl := Option.some.inj hj
        show W.cell? (a.add (i * 1)) = some (num p)
        rw [Nat.mul_one]
        exact hc
    · cases hp
/-- A script that came in. -/
theorem script_in {A : Option Addr} {len cap fuel : Nat} {x : DataW H × List MemPlace} (h : DataW.trod enc Try.prog W 0 sp held fuel 32 [.slice A len cap] = some x) :
    ∃ l : List Cal, l.length = len ∧ Scr W A l ∧ ∀ c ∈ l, CalIn c := by
  rcases open_slice Try.underlying32 h with ⟨hcs, _⟩ | ⟨a, len', cap', m, n, D, Pl, hcs, hb, hl, hm, hmm, _, hx⟩
  · simp at hcs
    obtain ⟨rfl, rfl, rfl⟩ := hcs
    exact ⟨[], rfl, fun i c hc => (by cases hc), fun c hc => (by cases hc)⟩
  · simp at hcs
    obtain ⟨rfl, rfl, rfl⟩ := hcs
    have hlm : len ≤ m := by rw [hmm]; split <;> omega
    have ce : Try.prog.cellsOf 36 = 4 := by kernel_rfl
    have each : ∀ i, i < len → ∃ q : Cal, W.cell? (a.add (i * 4)) = some (num q.op) ∧ W.cell? ⟨(a.add (i * 4)).block, (a.add (i * 4)).off + 1, none⟩ = some (num q.a) ∧ W.cell? ⟨(a.add (i * 4)).block, (a.add (i * 4)).off + 2, none⟩ = some (num q.b) ∧ W.cell? ⟨(a.add (i * 4)).block, (a.add (i * 4)).off + 3, none⟩ = some (num q.c) ∧ CalIn q := by
      intro i hi
      obtain ⟨cs', h1, h2⟩ := hx i (by omega)
      rw [ce] at h1
      obtain ⟨_, hlen, hcell⟩ := World.cells?_some h1
      obtain ⟨xs, k, hk, hxy, _, hxl, hf⟩ := DataW.trod_struct Try.underlying36 h2
      match xs, hxl, cs', hlen with
      | [y0, y1, y2, y3], _, [v0, v1, v2, v3], _ =>
        have g0 := hf 0 _ rfl
        have g1 := hf 1 _ rfl
        have g2 := hf 2 _ rfl
        have g3 := hf 3 _ rfl
        have c3 : Try.prog.cellsOf 3 = 1 := by kernel_rfl
        simp [c3] at g0 g1 g2 g3
        obtain ⟨x0, e0, _, w0⟩ := DataW.trod_int Try.underlying3 g0
        obtain ⟨x1, e1, _, w1⟩ := DataW.trod_int Try.underlying3 g1
        obtain ⟨x2, e2, _, w2⟩ := DataW.trod_int Try.underlying3 g2
        obtain ⟨x3, e3, _, w3⟩ := DataW.trod_int Try.underlying3 g3
        simp at e0 e1 e2 e3
        subst e0; subst e1; subst e2; subst e3
        have k0 : W.cell? (a.add (i * 4)) = some (num x0) := hcell 0 (by omega)
        have k1 : W.cell? ⟨(a.add (i * 4)).block, (a.add (i * 4)).off + 1, none⟩ = some (num x1) := hcell 1 (by omega)
        have k2 : W.cell? ⟨(a.add (i * 4)).block, (a.add (i * 4)).off + 2, none⟩ = some (num x2) := hcell 2 (by omega)
        have k3 : W.cell? ⟨(a.add (i * 4)).block, (a.add (i * 4)).off + 3, none⟩ = some (num x3) := hcell 3 (by omega)
        exact ⟨⟨x0, x1, x2, x3⟩, k0, k1, k2, k3, wf_in64 w0, wf_in64 w1, wf_in64 w2, wf_in64 w3⟩
    obtain ⟨q, hq⟩ := choose_lt each
    refine ⟨(List.range len).map q, by simp, fun i c hc => ?_, fun c hc => ?_⟩
    · rw [List.getElem?_map] at hc
      obtain ⟨i', hi', rfl⟩ := Option.map_eq_some_iff.1 hc
      obtain ⟨hil, he⟩ := List.getElem?_eq_some_iff.1 hi'
      simp only [List.getElem_range] at he
      subst he
      simp only [List.length_range] at hil
      obtain ⟨h0, h1, h2, h3, _⟩ := hq i hil
      exact ⟨a, rfl, h0, h1, h2, h3⟩
    · obtain ⟨i, hi, rfl⟩ := List.mem_map.1 hc
      exact (hq i (List.mem_range.1 hi)).2.2.2.2
/-- Scripts that came in. -/
theorem scripts_in {A : Option Addr} {len cap fuel : Nat} {x : DataW H × List MemPlace} (h : DataW.trod enc Try.prog W 0 sp held fuel 23 [.slice A len cap] = some x) :
    ∃ l : List (List Cal), l.length = len ∧ ScrAt W A l ∧ (∀ s ∈ l, ∀ c ∈ s, CalIn c) ∧ len ≤ cap := by
  rcases open_slice Try.underlying23 h with ⟨hcs, _⟩ | ⟨a, len', cap', m, n, D, Pl, hcs, hb, hl, hm, hmm, _, hx⟩
  · simp at hcs
    obtain ⟨rfl, rfl, rfl⟩ := hcs
    exact ⟨[], rfl, fun i c hc => (by cases hc), fun c hc => (by cases hc), Nat.le_refl _⟩
  · simp at hcs
    obtain ⟨rfl, rfl, rfl⟩ := hcs
    have hlm : len ≤ m := by rw [hmm]; split <;> omega
    have ce : Try.prog.cellsOf 32 = 1 := by kernel_rfl
    have each : ∀ i, i < len → ∃ q : List Cal, (∃ B cp, W.cell? (a.add i) = some (.slice B q.length cp) ∧ Scr W B q) ∧ ∀ c ∈ q, CalIn c := by
      intro i hi
      obtain ⟨cs', h1, h2⟩ := hx i (by omega)
      rw [ce, Nat.mul_one] at h1
      obtain ⟨_, hlen, hcell⟩ := World.cells?_some h1
      match cs', hlen with
      | [v], _ =>
        have k0 := hcell 0 (by omega)
        have e0 : (a.add i).add 0 = a.add i := by simp [Addr.add]
        rw [e0] at k0
        have hv : ∃ B l c, v = .slice B l c := by
          rcases open_slice Try.underlying32 h2 with ⟨h3, _⟩ | ⟨a3, l3, c3, _, _, _, _, h3, _⟩
          · simp at h3; exact ⟨_, _, _, h3⟩
          · simp at h3; exact ⟨_, _, _, h3⟩
        obtain ⟨B, l3, c3, rfl⟩ := hv
        obtain ⟨q, hq1, hq2, hq3⟩ := script_in h2
        subst hq1
        exact ⟨q, ⟨B, c3, by simpa using k0, hq2⟩, hq3⟩
    obtain ⟨q, hq⟩ := choose_lt each
    refine ⟨(List.range len).map q, by simp, fun i s hs => ?_, fun s hs => ?_, hl⟩
    · rw [List.getElem?_map] at hs
      obtain ⟨i', hi', rfl⟩ := Option.map_eq_some_iff.1 hs
      obtain ⟨hil, he⟩ := List.getElem?_eq_some_iff.1 hi'
      simp only [List.getElem_range] at he
      subst he
      simp only [List.length_range] at hil
      obtain ⟨⟨B, cp, h0, h1⟩, _⟩ := hq i hil
      exact ⟨a, B, cp, rfl, h0, h1⟩
    · obtain ⟨i, hi, rfl⟩ := List.mem_map.1 hs
      exact (hq i (List.mem_range.1 hi)).2
/-- .. not too many. -/
theorem scripts_few {A : Option Addr} {len cap : Nat} {d : DataW H} {ps : List MemPlace} {ts : List TypeId} {ds : List (DataW H)} {j : Nat} (hsz : (DataW.weightsEach Try.prog ts ds).all (· ≤ reachBytes) = true) (ht : ts[j]? = some 23) (hd : ds[j]? = some d) (h : DataW.Trod enc Try.prog W 0 sp held 23 (.slice A len cap) d ps) : len ≤ 9223372036854775806 := by
  obtain ⟨fuel, hf⟩ := h
  rcases open_slice Try.underlying23 hf with ⟨hcs, _⟩ | ⟨a, len', cap', m, n, D, Pl, hcs, hb, hl, hm, hmm, hx, _⟩
  · simp [Value.cells] at hcs
    omega
  · simp [Value.cells] at hcs
    obtain ⟨rfl, rfl, rfl⟩ := hcs
    obtain ⟨hx, _⟩ := Prod.mk.inj hx
    subst hx
    have z := sized_slice hsz ht hd Try.underlying23
    have hb : Try.prog.bytesOf 32 = 24 := by kernel_rfl
    rw [hb] at z
    have hr : reachBytes = 140737488351232 := by decide
    rw [hr] at z
    simp only [List.length_map, List.length_range] at z
    omega
end
end Go.Proofs.Ytoabkcalphpkhaa

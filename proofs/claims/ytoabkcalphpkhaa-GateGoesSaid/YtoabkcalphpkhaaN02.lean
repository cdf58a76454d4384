/- Merged: Note. -/
import Derived.Test.YtoabkcalphpkhaaN01
import Derived.Test.YtoabkcalphpkhaaWords
import Derived.Deep.RegionLaw
import Derived.Deep.AppendLies
import Derived.Deep.RegionHeld3
/- A step behind the trace: (*Thread).note. -/
namespace Go.Proofs.Ytoabkcalphpkhaa
open Go Go.RowKit
open Go.Proofs.YtoabkcalphpkhaaW.PrintWords
set_option linter.unusedVariables false
set_option linter.unusedSimpArgs false

def k40 : Kd St5 := Kd.iso (Kd.pair (Kd.int .i64) (Kd.pair (Kd.int .i64) (Kd.pair (Kd.int .i64) (Kd.pair (Kd.int .i64) (Kd.int .i64))))) (fun x => (x.th, x.ce, x.op, x.old, x.new))
def cells5 (x : St5) : List Value := [.int .i64 x.th, .int .i64 x.ce, .int .i64 x.op, .int .i64 x.old, .int .i64 x.new]
theorem k40_mkM (w : World) (base : Nat) (ok : Nat → Prop) (x : St5) : k40.M w base ok x (cells5 x) :=
  ⟨[.int .i64 x.th], _, rfl, rfl, [.int .i64 x.ce], _, rfl, rfl, [.int .i64 x.op], _, rfl, rfl, [.int .i64 x.old], _, rfl, rfl, rfl⟩
theorem info40 : (Try.prog.info? 40).map (fun i => (i.zero, i.size, i.bytes)) = some (some (.agg #[(.int .i64 0), (.int .i64 0), (.int .i64 0), (.int .i64 0), (.int .i64 0)]), 5, 40) := by kernel_rfl

set_option maxHeartbeats 4000000 in
set_option maxRecDepth 100000 in
theorem note_calls (w : World) (T W : Nat) (id op cell old new : Int) (v : Value) (tr : List St5) (ok : Nat → Prop) (hlen : (tr.length + 1) * 40 ≤ 140737488355328)
    (hT0 : w.cell? ⟨T, 0, none⟩ = some (.pointer (some ⟨W, 0, none⟩))) (hT1 : w.cell? ⟨T, 1, none⟩ = some (.int .i64 id)) (hW5 : w.cell? ⟨W, 5, none⟩ = some v) (hz : w.frozen? ⟨W, 5, none⟩ = false)
    (HO : k40.R 40 w 0 ok v tr) (hok : ∀ k, ok k → k ≠ W ∧ k ≠ T) (hfresh : ∀ k, w.heap.size ≤ k → ok k) :
    Calls Try.prog 84 #[.pointer (some ⟨T, 0, none⟩), .int .i64 op, .int .i64 cell, .int .i64 old, .int .i64 new] w fun e w' => e = .returned (.tuple #[]) ∧
      ∃ v' w1, w.grownBy w1 v.ownBlock ∧ k40.R 40 w1 0 ok v' (tr ++ [⟨id, cell, op, old, new⟩]) ∧ w' = w1.setCell ⟨W, 5, none⟩ v' := by
  have a5 : ∀ o, (w.alloc o).cell? ⟨W, 5, none⟩ = some v := fun o => ((below_alloc (Below.refl _ _) o).cell (World.block_lt_of_cell? w _ hW5)).trans hW5
  have a0 : ∀ o, (w.alloc o).cell? ⟨T, 0, none⟩ = some (.pointer (some ⟨W, 0, none⟩)) := fun o => ((below_alloc (Below.refl _ _) o).cell (World.block_lt_of_cell? w _ hT0)).trans hT0
  have a1 : ∀ o, (w.alloc o).cell? ⟨T, 1, none⟩ = some (.int .i64 id) := fun o => ((below_alloc (Below.refl _ _) o).cell (World.block_lt_of_cell? w _ hT1)).trans hT1
  go_enter Try.func84, Try.ntmps84
  go_wp2_with fail
  go_region_law (refine Kd.R_append_step k40 (w0 := w) (W := w.drew) 0 rfl (.tmp 20) (.tmp 30) 37 40 _ 40 rfl Try.underlying37 info40 rfl (by decide) (by decide) v tr ⟨id, cell, op, old, new⟩ (cells5 ⟨id, cell, op, old, new⟩) ok (fun _ => False) rfl rfl (k40_mkM _ _ _ _) (fun _ h => h.elim) hfresh (Kd.R_drew HO) (below_drew (Below.refl 0 w)) (Nat.zero_le _) hlen ?_; intro v1 w1 ho1 hb1 hg1 hat1; have q0 : w1.heap[W]? = w.heap[W]? := (hg1.block W (World.block_lt_of_cell? w _ hW5) (fun e => (hok W (HO.1 W e.symm)).1 rfl)); have q1 : w1.cell? ⟨W, 5, none⟩ = some v := (by unfold World.cell? at hW5 ⊢; rw [q0]; exact hW5); have q2 : w1.frozen? ⟨W, 5, none⟩ = false := (by unfold World.frozen? at hz ⊢; rw [q0]; exact hz); have q3 : w1.cell? ⟨T, 0, none⟩ = some (.pointer (some ⟨W, 0, none⟩)) := (by have q4 : w1.heap[T]? = w.heap[T]? := (hg1.block T (World.block_lt_of_cell? w _ hT0) (fun e => (hok T (HO.1 T e.symm)).2 rfl)); unfold World.cell? at hT0 ⊢; rw [q4]; exact hT0); clear q0; obtain ⟨A1, c1, rfl⟩ := Kd.R_slice ho1)
  all_goals exact ⟨rfl, .tuple #[], results_none rfl _ _ _, rfl, _, w1, ⟨hg1.os, hg1.tape, hg1.output, hg1.size, hg1.block⟩, ho1, by rw [List.length_append]; rfl⟩
end Go.Proofs.Ytoabkcalphpkhaa

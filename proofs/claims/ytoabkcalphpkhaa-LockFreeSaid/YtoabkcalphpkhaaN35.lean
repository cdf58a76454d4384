/- Merged: Lock, LockDo, LockPlay, Awake24. -/
import Derived.Test.YtoabkcalphpkhaaN24
import Derived.Test.YtoabkcalphpkhaaN16
import Derived.Test.YtoabkcalphpkhaaN18
import Derived.Test.YtoabkcalphpkhaaN30
import Derived.Test.YtoabkcalphpkhaaN23
/- Package lock: Lock, Try, Unlock, by whoever goes; what is done under it. (Printed by gen_lock.py.) -/
namespace Go.Proofs.Ytoabkcalphpkhaa
open Go Go.Conc Go.RowKit
open Go.Proofs.YtoabkcalphpkhaaW.PrintWords
set_option linter.unusedVariables false
set_option linter.unusedSimpArgs false
set_option linter.unusedSectionVars false
set_option maxRecDepth 100000

/-- A deferred frame hands nothing back: its caller goes on to its end. -/
theorem Wn.backD {P : Program} {C : Ctx P} {cs : List Frame} {u : World} {b : Frame} {a : Act} {fn : Func} {todo : List Item} {c : Frame} (hk : b.kind = .deferred) (hd : a.defers = []) (hf : P.funcs[b.fn]? = some fn) (hr : fn.results = #[]) (hm : c.mode = .returning) (h : Wn C c cs u) :
    Wn C { b.at a todo with mode := .returning } (c :: cs) u := by
  refine Wn.ctl_ (fun main w => ?_) h
  have h2 : (results fn a.tmps).runT P w #[] = (.ok (.tuple #[]) w, #[]) := by simp [results, hr]
  simp only [stepG, unwind, gr, Frame.at, hd, hf, h2, hk, doReturn, hm]
  simp [GStep.after, seen_none]
/-- A call that is not wanted. -/
theorem Wn.skipC {P : Program} {C : Ctx P} {cs : List Frame} {u : World} {b : Frame} {a : Act} {k : List Item} {ops : Array Oper} {o : Oper} (n m m' : Nat) (hm : m = m' + 1) (ho : ops[n]? = some o) (hw : Region.wanted o (yielded ops a.tmps) = false)
    (h : Wn C (b.at (a.put o.dst undef) (.inRegion ops (List.range' (n + 1) m') :: k)) cs u) : Wn C (b.at a (.inRegion ops (List.range' n m) :: k)) cs u := by
  subst hm
  rw [List.range'_succ]
  exact Wn.unwanted ho hw h

/-- A ticket; wait till it is called. -/
def lockP (c0 c1 : Nat) (k : Bool → Proc) (f : Nat) : Proc := .step c0 5 (fun v => wrap64 (v + 1)) fun v => untilP c1 (fun x => x == v) k f
def tryP (c0 c1 : Nat) (k : Bool → Proc) : Proc := .step c1 1 id fun v => .step c0 4 (fun x => if x = v then wrap64 (v + 1) else x) fun x => k (decide (x = v))
/-- What is done under the lock. -/
def heldP (c1 c2 : Nat) (n : Int) (k : Ans → Proc) : Proc := .step c2 1 id fun v => .step c2 2 (fun _ => wrap64 (v + n)) fun _ => .step c1 5 (fun v => wrap64 (v + 1)) fun _ => k ⟨0, v⟩
def doLock (f : Nat) (c : Cal) (k : Ans → Proc) : Proc :=
  if c.op = 1 then lockP 0 1 (fun b => if b then heldP 1 2 c.a k else k ⟨4, 0⟩) f
  else if c.op = 2 then tryP 0 1 (fun b => if b then heldP 1 2 c.a k else k ⟨0, -1⟩)
  else k ⟨1, 0⟩

section
variable {M : Mode} {F : Nat → Prop} {u : World} {C : Ctx Try.prog} {fr : Frame} {cs : List Frame} {c0 c1 lb : Nat}
/-- Lock. -/
theorem lock27 {k : Bool → Proc} {f : Nat} (h : M.At (.go (lockP c0 c1 k f)) F u C) (hc0 : c0 < M.cn) (hc : c1 < M.cn) (hl : M.ro lb = some (.cells #[ptr (M.cb c0), ptr (M.cb c1)] 95 (0, 0)))
    (hn : ∀ e F' u' C', M.At (.go (k e)) F' u' C' → (∀ b, F b → F' b) → Keep F u u' → Wn C' (fr.finish (.bool e)) cs u') : Wn C (Frame.enter Try.prog 27 #[ptr lb, ptr M.T] .normal) (fr :: cs) u := by
  have hfz := (M.plain h).1
  have hlb : u.heap[lb]? = some (.cells #[ptr (M.cb c0), ptr (M.cb c1)] 95 (0, 0)) := M.rof h _ _ hl
  have l0 : u.cell? ⟨lb, 0, none⟩ = some (.pointer (some ⟨M.cb c0, 0, none⟩)) := (blk_cell hlb 0).trans rfl
  have l1 : u.cell? ⟨lb, 1, none⟩ = some (.pointer (some ⟨M.cb c1, 0, none⟩)) := (blk_cell hlb 1).trans rfl
  clear hlb
  refine Wn.body Try.func27 rfl ?_
  simp only [Try.ntmps27, List.size_toArray, List.length_cons, List.length_nil, Nat.reduceAdd, Nat.reduceSub, Array.replicate_succ, Array.replicate_zero, List.push_toArray, List.append_toArray, List.nil_append, List.cons_append]
  refine Wn.seq (Wn.reg (by simp [base]) (by rw [hfz]; kernel_rfl) ?_)
  go_wp2_with fail
  refine ⟨rfl, ?_⟩
  refine Wn.seq (Wn.open ?_)
  refine Wn.span1 0 5 8 (by simp [base]) (by decide) (by decide) (by rw [hfz]; kernel_rfl) ?_
  simp only [List.take, List.drop]
  go_wp2_with fail
  refine ⟨rfl, ?_⟩
  refine Wn.callC 5 3 2 rfl (by simp [base]) rfl rfl rfl (by kernel_rfl) ?_
  refine add41 (x := 1) h hc0 ?_
  intro my F0 u0 C0 h0 hF0 hk0 hin
  rw [Frame.finish_at]
  have hfz0 := (M.plain h0).1
  have hmy : wrap64 (wrap64 (my + 1) - 1) = my := wrap64_back hin
  clear l0 l1
  refine Wn.span1 6 2 2 (by simp [base]) (by decide) (by decide) (by rw [hfz0]; kernel_rfl) ?_
  simp only [List.take, List.drop]
  go_wp2_with fail
  refine ⟨rfl, ?_⟩
  rw [hmy]
  clear hmy
  refine Wn.range_end (n := 0) ?_
  refine Wn.seq (Wn.block ?_)
  have hn : ∀ e F' u' C', M.At (.go (k e)) F' u' C' → (∀ b, F0 b → F' b) → Keep F0 u0 u' → Wn C' (fr.finish (.bool e)) cs u' := fun e F' u' C' h' hF' hk' => hn e F' u' C' h' (fun b hb => hF' b (hF0 b hb)) (hk0.trans' hF0 hk')
  clear h hfz hF0 hk0
  refine Wn.loop_ind (f := f) (fun f a u1 C1 => ∃ F1, M.At (.go (untilP c1 (fun x => x == my) k f)) F1 u1 C1 ∧ (∀ b, F0 b → F1 b) ∧ Keep F0 u0 u1 ∧ ∃ x2 x3 x4 x6 x7 x8 x9 x10 x11 x12 x13 x14 x15 x16 x17 x18 x19 x20 x21 x22 x23 x24 x25 x26 x27 x28, a = { tmps := #[ptr lb, ptr M.T, x2, x3, x4, num my, x6, x7, x8, x9, x10, x11, x12, x13, x14, x15, x16, x17, x18, x19, x20, x21, x22, x23, x24, x25, x26, x27, x28], defers := [] }) ?_ ?_ ⟨F0, h0, fun _ h => h, Keep.refl _ _, _, _, _, _, _, _, _, _, _, _, _, _, _, _, _, _, _, _, _, _, _, _, _, _, _, _, rfl⟩
  · rintro f ih a u1 C1 ⟨F1, h1, hF1, hk1, x2, x3, x4, x6, x7, x8, x9, x10, x11, x12, x13, x14, x15, x16, x17, x18, x19, x20, x21, x22, x23, x24, x25, x26, x27, x28, rfl⟩
    simp only [untilP] at h1
    have hfz1 := (M.plain h1).1
    have hlb : u1.heap[lb]? = some (.cells #[ptr (M.cb c0), ptr (M.cb c1)] 95 (0, 0)) := M.rof h1 _ _ hl
    have l0 : u1.cell? ⟨lb, 0, none⟩ = some (.pointer (some ⟨M.cb c0, 0, none⟩)) := (blk_cell hlb 0).trans rfl
    have l1 : u1.cell? ⟨lb, 1, none⟩ = some (.pointer (some ⟨M.cb c1, 0, none⟩)) := (blk_cell hlb 1).trans rfl
    clear hlb
    refine Wn.seq (Wn.seq (Wn.open ?_))
    refine Wn.span1 0 5 8 (by simp [base]) (by decide) (by decide) (by rw [hfz1]; kernel_rfl) ?_
    simp only [List.take, List.drop]
    go_wp2_with fail
    refine ⟨rfl, ?_⟩
    refine Wn.callC 5 3 2 rfl (by simp [base]) rfl rfl rfl (by kernel_rfl) ?_
    refine load43 h1 hc ?_
    intro v F2 u2 C2 h2 hF2 hk2 hin
    rw [Frame.finish_at]
    have hfz2 := (M.plain h2).1
    clear l0 l1
    by_cases hv : v = my
    · subst hv
      rw [if_pos (beq_self_eq_true v)] at h2
      refine Wn.span1 6 2 2 (by simp [base]) (by decide) (by decide) (by rw [hfz2]; kernel_rfl) ?_
      simp only [List.take, List.drop]
      go_wp2_with fail
      refine ⟨rfl, ?_⟩
      refine Wn.range_end (Wn.cond rfl ?_)
      simp only [Bool.false_eq_true, if_false]
      refine Wn.exit rfl ?_
      refine Wn.seq (Wn.reg (by simp [base]) (by rw [hfz2]; kernel_rfl) ?_)
      go_wp2_with fail
      refine ⟨rfl, ?_⟩
      refine Wn.ret ?_
      refine Wn.back rfl rfl Try.func27 (results_tmp rfl _ _ _) ?_
      exact hn true F2 u2 C2 h2 (fun b hb => hF2 b (hF1 b hb)) (hk1.trans' hF1 hk2)
    · rw [if_neg (fun e => hv (beq_iff_eq.1 e))] at h2
      have d1 : decide (v = my) = false := decide_eq_false hv
      have d2 : (v == my) = false := beq_eq_false_iff_ne.mpr hv
      have d3 : (v != my) = true := bne_iff_ne.mpr hv
      refine Wn.span1 6 2 2 (by simp [base]) (by decide) (by decide) (by rw [hfz2]; kernel_rfl) ?_
      simp only [List.take, List.drop]
      go_wp2_with fail
      refine ⟨rfl, ?_⟩
      refine Wn.range_end (Wn.cond rfl ?_)
      simp only [if_true]
      clear d1 d2 d3
      have hlb : u2.heap[lb]? = some (.cells #[ptr (M.cb c0), ptr (M.cb c1)] 95 (0, 0)) := M.rof h2 _ _ hl
      have l0 : u2.cell? ⟨lb, 0, none⟩ = some (.pointer (some ⟨M.cb c0, 0, none⟩)) := (blk_cell hlb 0).trans rfl
      have l1 : u2.cell? ⟨lb, 1, none⟩ = some (.pointer (some ⟨M.cb c1, 0, none⟩)) := (blk_cell hlb 1).trans rfl
      clear hlb
      obtain ⟨v2, hb2, _⟩ := M.cell h2 hc
      refine Wn.skip (Wn.block ?_)
      refine Wn.seq (Wn.open ?_)
      refine Wn.span1 0 5 8 (by simp [base]) (by decide) (by decide) (by rw [hfz2]; kernel_rfl) ?_
      simp only [List.take, List.drop]
      go_wp2_with fail
      refine ⟨rfl, ?_⟩
      refine Wn.callC 5 3 2 rfl (by simp [base]) rfl rfl rfl (by kernel_rfl) ?_
      refine id44 hfz2 hb2 ?_
      rw [Frame.finish_at]
      clear hb2
      refine Wn.callC 6 2 1 rfl (by simp [base]) rfl rfl rfl (by kernel_rfl) ?_
      refine M.await h2 ?_
      intro e F3 u3 C3 h3 hF3 hk3
      rw [Frame.finish_at]
      have hfz3 := (M.plain h3).1
      clear l0 l1
      refine Wn.span1 7 1 1 (by simp [base]) (by decide) (by decide) (by rw [hfz3]; kernel_rfl) ?_
      simp only [List.take, List.drop]
      go_wp2_with fail
      refine ⟨rfl, ?_⟩
      refine Wn.range_end (Wn.cond rfl ?_)
      cases e with
      | true =>
        simp only [if_true, Bool.not_true, Bool.false_eq_true, if_false] at h3 ⊢
        refine Wn.skip (Wn.inBlock ?_)
        exact ih _ _ _ ⟨F3, h3, fun b hb => hF3 b (hF2 b (hF1 b hb)), (hk1.trans' hF1 hk2).trans' (fun b hb => hF2 b (hF1 b hb)) hk3, _, _, _, _, _, _, _, _, _, _, _, _, _, _, _, _, _, _, _, _, _, _, _, _, _, _, rfl⟩
      | false =>
        simp only [Bool.false_eq_true, if_false, Bool.not_false, if_true] at h3 ⊢
        refine Wn.seq (Wn.reg (by simp [base]) (by rw [hfz3]; kernel_rfl) ?_)
        go_wp2_with fail
        refine ⟨rfl, ?_⟩
        refine Wn.ret ?_
        refine Wn.back rfl rfl Try.func27 (results_tmp rfl _ _ _) ?_
        exact hn false F3 u3 C3 h3 (fun b hb => hF3 b (hF2 b (hF1 b hb))) ((hk1.trans' hF1 hk2).trans' (fun b hb => hF2 b (hF1 b hb)) hk3)
  · rintro a u1 C1 ⟨F1, h1, _⟩
    exact M.nobad h1
/-- Try. -/
theorem try28 {k : Bool → Proc} (h : M.At (.go (tryP c0 c1 k)) F u C) (hc0 : c0 < M.cn) (hc : c1 < M.cn) (hl : M.ro lb = some (.cells #[ptr (M.cb c0), ptr (M.cb c1)] 95 (0, 0)))
    (hn : ∀ e F' u' C', M.At (.go (k e)) F' u' C' → (∀ b, F b → F' b) → Keep F u u' → Wn C' (fr.finish (.bool e)) cs u') : Wn C (Frame.enter Try.prog 28 #[ptr lb, ptr M.T] .normal) (fr :: cs) u := by
  have hfz := (M.plain h).1
  have hlb : u.heap[lb]? = some (.cells #[ptr (M.cb c0), ptr (M.cb c1)] 95 (0, 0)) := M.rof h _ _ hl
  have l0 : u.cell? ⟨lb, 0, none⟩ = some (.pointer (some ⟨M.cb c0, 0, none⟩)) := (blk_cell hlb 0).trans rfl
  have l1 : u.cell? ⟨lb, 1, none⟩ = some (.pointer (some ⟨M.cb c1, 0, none⟩)) := (blk_cell hlb 1).trans rfl
  clear hlb
  refine Wn.body Try.func28 rfl ?_
  simp only [Try.ntmps28, List.size_toArray, List.length_cons, List.length_nil, Nat.reduceAdd, Nat.reduceSub, Array.replicate_succ, Array.replicate_zero, List.push_toArray, List.append_toArray, List.nil_append, List.cons_append]
  refine Wn.seq (Wn.reg (by simp [base]) (by rw [hfz]; kernel_rfl) ?_)
  go_wp2_with fail
  refine ⟨rfl, ?_⟩
  refine Wn.seq (Wn.open ?_)
  refine Wn.span1 0 5 7 (by simp [base]) (by decide) (by decide) (by rw [hfz]; kernel_rfl) ?_
  simp only [List.take, List.drop]
  go_wp2_with fail
  refine ⟨rfl, ?_⟩
  refine Wn.callC 5 2 1 rfl (by simp [base]) rfl rfl rfl (by kernel_rfl) ?_
  refine load43 h hc ?_
  intro v F2 u2 C2 h2 hF2 hk2 hin
  rw [Frame.finish_at]
  have hfz2 := (M.plain h2).1
  clear l0 l1
  refine Wn.span1 6 1 1 (by simp [base]) (by decide) (by decide) (by rw [hfz2]; kernel_rfl) ?_
  simp only [List.take, List.drop]
  go_wp2_with fail
  refine ⟨rfl, ?_⟩
  refine Wn.range_end (n := 0) ?_
  have hlb : u2.heap[lb]? = some (.cells #[ptr (M.cb c0), ptr (M.cb c1)] 95 (0, 0)) := M.rof h2 _ _ hl
  have l0 : u2.cell? ⟨lb, 0, none⟩ = some (.pointer (some ⟨M.cb c0, 0, none⟩)) := (blk_cell hlb 0).trans rfl
  have l1 : u2.cell? ⟨lb, 1, none⟩ = some (.pointer (some ⟨M.cb c1, 0, none⟩)) := (blk_cell hlb 1).trans rfl
  clear hlb
  refine Wn.seq (Wn.open ?_)
  refine Wn.span1 0 8 10 (by simp [base]) (by decide) (by decide) (by rw [hfz2]; kernel_rfl) ?_
  simp only [List.take, List.drop]
  go_wp2_with fail
  refine ⟨rfl, ?_⟩
  refine Wn.callC 8 2 1 rfl (by simp [base]) rfl rfl rfl (by kernel_rfl) ?_
  refine cas40 (wrap64_in64 _) h2 hc0 ?_
  intro x F3 u3 C3 h3 hF3 hk3 hin3
  rw [Frame.finish_at]
  have hfz3 := (M.plain h3).1
  clear l0 l1
  refine Wn.span1 9 1 1 (by simp [base]) (by decide) (by decide) (by rw [hfz3]; kernel_rfl) ?_
  simp only [List.take, List.drop]
  go_wp2_with fail
  refine ⟨rfl, ?_⟩
  refine Wn.range_end (n := 0) (Wn.ret ?_)
  refine Wn.back rfl rfl Try.func28 (results_tmp rfl _ _ _) ?_
  exact hn _ F3 u3 C3 h3 (fun b hb => hF3 b (hF2 b hb)) (hk2.trans' hF2 hk3)
/-- Unlock. -/
theorem unlock29 {k : Int → Proc} (h : M.At (.go (.step c1 5 (fun v => wrap64 (v + 1)) k)) F u C) (hc : c1 < M.cn) (hl : M.ro lb = some (.cells #[ptr (M.cb c0), ptr (M.cb c1)] 95 (0, 0)))
    (hn : ∀ v F' u' C', M.At (.go (k v)) F' u' C' → (∀ b, F b → F' b) → Keep F u u' → Wn C' (fr.finish (.tuple #[])) cs u') : Wn C (Frame.enter Try.prog 29 #[ptr lb, ptr M.T] .normal) (fr :: cs) u := by
  have hfz := (M.plain h).1
  have hlb : u.heap[lb]? = some (.cells #[ptr (M.cb c0), ptr (M.cb c1)] 95 (0, 0)) := M.rof h _ _ hl
  have l0 : u.cell? ⟨lb, 0, none⟩ = some (.pointer (some ⟨M.cb c0, 0, none⟩)) := (blk_cell hlb 0).trans rfl
  have l1 : u.cell? ⟨lb, 1, none⟩ = some (.pointer (some ⟨M.cb c1, 0, none⟩)) := (blk_cell hlb 1).trans rfl
  clear hlb
  refine Wn.body Try.func29 rfl ?_
  simp only [Try.ntmps29, List.size_toArray, List.length_cons, List.length_nil, Nat.reduceAdd, Nat.reduceSub, Array.replicate_succ, Array.replicate_zero, List.push_toArray, List.append_toArray, List.nil_append, List.cons_append]
  refine Wn.open ?_
  refine Wn.span1 0 5 6 (by simp [base]) (by decide) (by decide) (by rw [hfz]; kernel_rfl) ?_
  simp only [List.take, List.drop]
  go_wp2_with fail
  refine ⟨rfl, ?_⟩
  refine Wn.callC 5 1 0 rfl (by simp [base]) rfl rfl rfl (by kernel_rfl) ?_
  refine add41 (x := 1) h hc ?_
  intro v F2 u2 C2 h2 hF2 hk2 hin
  rw [Frame.finish_at]
  refine Wn.range_end (Wn.fall ?_)
  refine Wn.back rfl rfl Try.func29 (results_none rfl _ _ _) ?_
  exact hn v F2 u2 C2 h2 hF2 hk2
theorem unlock29D {k : Int → Proc} {c : Frame} (hm : c.mode = .returning) (h : M.At (.go (.step c1 5 (fun v => wrap64 (v + 1)) k)) F u C) (hc : c1 < M.cn) (hl : M.ro lb = some (.cells #[ptr (M.cb c0), ptr (M.cb c1)] 95 (0, 0)))
    (hn : ∀ v F' u' C', M.At (.go (k v)) F' u' C' → (∀ b, F b → F' b) → Keep F u u' → Wn C' c cs u') : Wn C (Frame.enter Try.prog 29 #[ptr lb, ptr M.T] .deferred) (c :: cs) u := by
  have hfz := (M.plain h).1
  have hlb : u.heap[lb]? = some (.cells #[ptr (M.cb c0), ptr (M.cb c1)] 95 (0, 0)) := M.rof h _ _ hl
  have l0 : u.cell? ⟨lb, 0, none⟩ = some (.pointer (some ⟨M.cb c0, 0, none⟩)) := (blk_cell hlb 0).trans rfl
  have l1 : u.cell? ⟨lb, 1, none⟩ = some (.pointer (some ⟨M.cb c1, 0, none⟩)) := (blk_cell hlb 1).trans rfl
  clear hlb
  rw [enter_atD _ Try.func29 rfl]
  simp only [Try.ntmps29, List.size_toArray, List.length_cons, List.length_nil, Nat.reduceAdd, Nat.reduceSub, Array.replicate_succ, Array.replicate_zero, List.push_toArray, List.append_toArray, List.nil_append, List.cons_append]
  refine Wn.open ?_
  refine Wn.span1 0 5 6 (by simp [baseD]) (by decide) (by decide) (by rw [hfz]; kernel_rfl) ?_
  simp only [List.take, List.drop]
  go_wp2_with fail
  refine ⟨rfl, ?_⟩
  refine Wn.callC 5 1 0 rfl (by simp [baseD]) rfl rfl rfl (by kernel_rfl) ?_
  refine add41 (x := 1) h hc ?_
  intro v F2 u2 C2 h2 hF2 hk2 hin
  rw [Frame.finish_at]
  refine Wn.range_end (Wn.fall ?_)
  refine Wn.backD rfl rfl Try.func29 rfl hm ?_
  exact hn v F2 u2 C2 h2 hF2 hk2
end

section
variable {M : Mode} {F : Nat → Prop} {u : World} {C : Ctx Try.prog} {fr : Frame} {cs : List Frame} {lb lx xx hx : Nat}
/-- held. -/
theorem held55 {n : Int} {k : Ans → Proc} (h : M.At (.go (heldP 1 2 n k)) F u C) (hcn : 2 < M.cn) (hn64 : In64 n) (hl : M.ro lb = some (.cells #[ptr (M.cb 0), ptr (M.cb 1)] 95 (0, 0))) (hlx : M.ro lx = some (.cells #[ptr lb] 51 (0, 0))) (hxx : M.ro xx = some (.cells #[ptr (M.cb 2)] 64 (0, 0)))
    (hn : ∀ a F' u' C', M.At (.go (k a)) F' u' C' → (∀ b, F b → F' b) → Keep F u u' → Wn C' (fr.finish (ansV a)) cs u') : Wn C (Frame.enter Try.prog 55 #[ptr M.T, num n, ptr lx, ptr xx] .normal) (fr :: cs) u := by
  have hfz := (M.plain h).1
  have hlt := M.lt h
  refine Wn.body Try.func55 rfl ?_
  simp only [Try.ntmps55, List.size_toArray, List.length_cons, List.length_nil, Nat.reduceAdd, Nat.reduceSub, Array.replicate_succ, Array.replicate_zero, List.push_toArray, List.append_toArray, List.nil_append, List.cons_append]
  refine Wn.seq (Wn.reg (by simp [base]) (by rw [hfz]; kernel_rfl) ?_)
  go_wp2_with fail
  refine ⟨rfl, ?_⟩
  obtain ⟨F1, h1, hF1, hk1, hFr, hbr⟩ := M.one h (.cells #[num 0, num 0] 34 (0, 0))
  have hnr : ¬ F u.heap.size := fun e => by have := hlt _ e; omega
  generalize u.alloc (.cells #[num 0, num 0] 34 (0, 0)) = u1 at h1 hk1 hbr ⊢
  generalize u.heap.size = r at hFr hbr hnr ⊢
  have hfz := (M.plain h1).1
  have q0 : u1.cell? ⟨lx, 0, none⟩ = some (.pointer (some ⟨lb, 0, none⟩)) := (blk_cell (M.rof h1 _ _ hlx) 0).trans rfl
  refine Wn.seq (Wn.open ?_)
  refine Wn.span1 0 2 3 (by simp [base]) (by decide) (by decide) (by rw [hfz]; kernel_rfl) ?_
  simp only [List.take, List.drop]
  go_wp2_with fail
  refine ⟨rfl, ?_⟩
  rw [List.range'_succ]
  refine Wn.defer (dd := { target := .fn (.func 29) #[], args := #[ptr lb, ptr M.T] }) (by simp [base]) rfl rfl rfl rfl (fun w => by first | rfl | kernel_rfl) ?_
  refine Wn.range_end (n := 3) ?_
  clear q0
  have q1 : u1.cell? ⟨xx, 0, none⟩ = some (.pointer (some ⟨M.cb 2, 0, none⟩)) := (blk_cell (M.rof h1 _ _ hxx) 0).trans rfl
  refine Wn.seq (Wn.open ?_)
  refine Wn.span1 0 2 4 (by simp [base]) (by decide) (by decide) (by rw [hfz]; kernel_rfl) ?_
  simp only [List.take, List.drop]
  go_wp2_with fail
  refine ⟨rfl, ?_⟩
  refine Wn.callC 2 2 1 rfl (by simp [base]) rfl rfl rfl (by kernel_rfl) ?_
  refine load43 h1 hcn ?_
  intro v F2 u2 C2 h2 hF2 hk2 hin
  rw [Frame.finish_at]
  have hfz2 := (M.plain h2).1
  clear q1
  refine Wn.span1 3 1 1 (by simp [base]) (by decide) (by decide) (by rw [hfz2]; kernel_rfl) ?_
  simp only [List.take, List.drop]
  go_wp2_with fail
  refine ⟨rfl, ?_⟩
  refine Wn.range_end (n := 0) ?_
  have q1 : u2.cell? ⟨xx, 0, none⟩ = some (.pointer (some ⟨M.cb 2, 0, none⟩)) := (blk_cell (M.rof h2 _ _ hxx) 0).trans rfl
  refine Wn.seq (Wn.open ?_)
  refine Wn.span1 0 5 6 (by simp [base]) (by decide) (by decide) (by rw [hfz2]; kernel_rfl) ?_
  simp only [List.take, List.drop]
  go_wp2_with fail
  refine ⟨rfl, ?_⟩
  refine Wn.callC 5 1 0 rfl (by simp [base]) rfl rfl rfl (by kernel_rfl) ?_
  refine store38 (wrap64_in64 _) h2 hcn ?_
  intro v3 F3 u3 C3 h3 hF3 hk3 hin3
  rw [Frame.finish_at]
  have hfz3 := (M.plain h3).1
  clear q1
  refine Wn.range_end ?_
  have hbr' : u3.heap[r]? = some (.cells #[num 0, num 0] 34 (0, 0)) := (hk3 r (hF2 r hFr)).trans ((hk2 r hFr).trans hbr)
  have r0 : u3.cell? ⟨r, 0, none⟩ = some (.int .i64 0) := (blk_cell hbr' 0).trans rfl
  have r1 : u3.cell? ⟨r, 1, none⟩ = some (.int .i64 0) := (blk_cell hbr' 1).trans rfl
  have z0 : u3.frozen? ⟨r, 0, none⟩ = false := blk_thawed hbr' 0
  have z1 : u3.frozen? ⟨r, 1, none⟩ = false := blk_thawed hbr' 1
  refine Wn.seq (Wn.reg (by simp [base]) (by rw [hfz3]; kernel_rfl) ?_)
  go_wp2_with fail
  refine ⟨rfl, ?_⟩
  obtain ⟨h9, hb9, hk9⟩ := M.answer h3 (hF3 _ (hF2 _ hFr)) hbr' 0 v
  generalize (u3.setCell ⟨r, 0, none⟩ (num 0)).setCell ⟨r, 1, none⟩ (num v) = u9 at h9 hb9 hk9 ⊢
  refine Wn.ret ?_
  refine Wn.unwinds (dd := { target := .fn (.func 29) #[], args := #[ptr lb, ptr M.T] }) (ds := []) (f := 29) (args := #[ptr lb, ptr M.T]) (by simp) rfl rfl (fun w => ?_) ?_
  · show (invoke (.fn (.func 29) #[]) #[ptr lb, ptr M.T]).runT Try.prog w #[] = _
    exact runT_callFunc (by kernel_rfl) _ w
  refine unlock29D (c0 := 0) (c1 := 1) rfl h9 (by omega) hl ?_
  intro v4 F4 u4 C4 h4 hF4 hk4
  have hb4 : u4.heap[r]? = some (.cells #[num 0, num v] 34 (0, 0)) := (hk4 r (hF3 r (hF2 r hFr))).trans hb9
  refine Wn.leave (v := ansV ⟨0, v⟩) ⟨rfl, rfl, rfl, Try.f55, Try.func55, res34 (a := ⟨0, v⟩) rfl rfl hb4⟩ ?_
  have hk13 : Keep F u u3 := (hk1.trans' hF1 hk2).trans' (fun b hb => hF2 b (hF1 b hb)) hk3
  exact hn ⟨0, v⟩ F4 u4 C4 h4 (fun b hb => hF4 b (hF3 b (hF2 b (hF1 b hb)))) ((hk13.trans (hk9 F hnr)).trans' (fun b hb => hF3 b (hF2 b (hF1 b hb))) hk4)
end
end Go.Proofs.Ytoabkcalphpkhaa

/- lock.Play's call of a script. (Printed by gen_lockdo.py.) -/
namespace Go.Proofs.Ytoabkcalphpkhaa
open Go Go.Conc Go.RowKit
open Go.Proofs.YtoabkcalphpkhaaW.PrintWords
set_option linter.unusedVariables false
set_option linter.unusedSimpArgs false
set_option linter.unusedSectionVars false
set_option maxRecDepth 100000

section
variable {M : Mode} {F : Nat → Prop} {u : World} {C : Ctx Try.prog} {fr : Frame} {cs : List Frame} {lb lx xx hx : Nat}
set_option maxHeartbeats 1000000 in
theorem do56 {c : Cal} {k : Ans → Proc} {f : Nat} (hin : CalIn c) (h : M.At (.go (doLock f c k)) F u C) (hcn : 2 < M.cn) (hl : M.ro lb = some (.cells #[ptr (M.cb 0), ptr (M.cb 1)] 95 (0, 0))) (hlx : M.ro lx = some (.cells #[ptr lb] 51 (0, 0))) (hxx : M.ro xx = some (.cells #[ptr (M.cb 2)] 64 (0, 0))) (hhx : M.ro hx = some (.cells #[.func (.func 55) #[] #[ptr lx, ptr xx]] 96 (0, 0)))
    (hn : ∀ a F' u' C', M.At (.go (k a)) F' u' C' → (∀ b, F b → F' b) → Keep F u u' → Wn C' (fr.finish (ansV a)) cs u') : Wn C (Frame.enter Try.prog 56 #[ptr M.T, callV c, ptr lx, ptr hx] .normal) (fr :: cs) u := by
  have hfz := (M.plain h).1
  have hlt := M.lt h
  refine Wn.body Try.func56 rfl ?_
  simp only [Try.ntmps56, List.size_toArray, List.length_cons, List.length_nil, Nat.reduceAdd, Nat.reduceSub, Array.replicate_succ, Array.replicate_zero, List.push_toArray, List.append_toArray, List.nil_append, List.cons_append, callV]
  refine Wn.seq (Wn.reg (by simp [base]) (by rw [hfz]; kernel_rfl) ?_)
  go_wp2_with fail
  refine ⟨rfl, ?_⟩
  obtain ⟨F1, h1, hF1, hk1, hFp, hFr, hbp, hbr⟩ := M.two h (.cells #[num c.op, num c.a, num c.b, num c.c] 36 (0, 0)) (.cells #[num 0, num 0] 34 (0, 0))
  have hnr : ¬ F (u.heap.size + 1) := fun e => by have := hlt _ e; omega
  generalize hu1 : (u.alloc (.cells #[num c.op, num c.a, num c.b, num c.c] 36 (0, 0))).alloc (.cells #[num 0, num 0] 34 (0, 0)) = u1 at h1 hk1 hbp hbr ⊢
  generalize u.heap.size + 1 = r at hFr hbr hnr ⊢
  generalize u.heap.size = pb at hFp hbp ⊢
  clear hu1 hfz
  have hfz := (M.plain h1).1
  have HN : Hid (∀ a F' u' C', M.At (.go (k a)) F' u' C' → (∀ b, F b → F' b) → Keep F u u' → Wn C' (fr.finish (ansV a)) cs u') := hn
  clear hn
  refine Wn.seq (Wn.block ?_)
  by_cases e1 : c.op = 1
  · have hdo : doLock f c k = lockP 0 1 (fun b => if b then heldP 1 2 c.a k else k ⟨4, 0⟩) f := by unfold doLock; rw [if_pos e1]
    rw [hdo] at h1
    have d1 : (c.op == 1) = true := beq_iff_eq.mpr e1
    have d1' : decide (c.op = 1) = true := decide_eq_true e1
    have p0 : u1.cell? ⟨pb, 0, none⟩ = some (.int .i64 c.op) := (blk_cell hbp 0).trans rfl
    have x1 : u1.cell? ⟨lx, 0, none⟩ = some (.pointer (some ⟨lb, 0, none⟩)) := (blk_cell (M.rof h1 _ _ hlx) 0).trans rfl
    refine Wn.seq (Wn.open ?_)
    refine Wn.span1 0 6 10 (by simp [base]) (by decide) (by decide) (by rw [hfz]; kernel_rfl) ?_
    simp only [List.take, List.drop]
    go_wp2_with fail
    refine ⟨rfl, ?_⟩
    refine Wn.callC 6 4 3 rfl (by simp [base]) rfl rfl rfl (by kernel_rfl) ?_
    refine lock27 h1 (by omega) (by omega) hl ?_
    intro e F2 u2 C2 h2 hF2 hk2
    rw [Frame.finish_at]
    have hfz2 := (M.plain h2).1
    clear p0 x1 d1 d1'
    cases e with
    | true =>
      simp only [if_true] at h2
      refine Wn.span1 7 3 3 (by simp [base]) (by decide) (by decide) (by rw [hfz2]; kernel_rfl) ?_
      simp only [List.take, List.drop]
      go_wp2_with fail
      refine ⟨rfl, ?_⟩
      refine Wn.range_end (n := 0) (Wn.cond rfl ?_)
      simp only [Bool.false_eq_true, if_false]
      have d2 : (c.op == 2) = false := by rw [e1]; rfl
      have d2' : decide (c.op = 2) = false := by rw [e1]; rfl
      have p0 : u2.cell? ⟨pb, 0, none⟩ = some (.int .i64 c.op) := (blk_cell ((hk2 pb hFp).trans hbp) 0).trans rfl
      refine Wn.seq (Wn.open ?_)
      refine Wn.span1 0 6 10 (by simp [base]) (by decide) (by decide) (by rw [hfz2]; kernel_rfl) ?_
      simp only [List.take, List.drop]
      go_wp2_with fail
      refine ⟨rfl, ?_⟩
      refine Wn.skipC 6 4 3 rfl rfl rfl ?_
      refine Wn.span1 7 3 3 (by simp [base]) (by decide) (by decide) (by rw [hfz2]; kernel_rfl) ?_
      simp only [List.take, List.drop]
      go_wp2_with fail
      refine ⟨rfl, ?_⟩
      refine Wn.range_end (n := 0) (Wn.cond rfl ?_)
      simp only [Bool.false_eq_true, if_false]
      have d3 : (c.op != 1) = false := by rw [e1]; rfl
      have d3' : (c.op == 1) = true := by rw [e1]; rfl
      have d3'' : decide (c.op = 1) = true := by rw [e1]; rfl
      refine Wn.seq (Wn.reg (by simp [base]) (by rw [hfz2]; kernel_rfl) ?_)
      go_wp2_with fail
      refine ⟨rfl, ?_⟩
      refine Wn.cond rfl ?_
      simp only [Bool.false_eq_true, if_false]
      clear d2 d2' d3 d3' d3'' p0
      refine Wn.skip (Wn.inBlock ?_)
      have x3 : u2.cell? ⟨hx, 0, none⟩ = some (.func (.func 55) #[] #[ptr lx, ptr xx]) := (blk_cell (M.rof h2 _ _ hhx) 0).trans rfl
      have p1 : u2.cell? ⟨pb, 1, none⟩ = some (.int .i64 c.a) := (blk_cell ((hk2 pb hFp).trans hbp) 1).trans rfl
      refine Wn.seq (Wn.open ?_)
      refine Wn.span1 0 4 6 (by simp [base]) (by decide) (by decide) (by rw [hfz2]; kernel_rfl) ?_
      simp only [List.take, List.drop]
      go_wp2_with fail
      refine ⟨rfl, ?_⟩
      clear x3 p1
      refine Wn.callV (f := 55) (caps := #[ptr lx, ptr xx]) 4 2 1 rfl (by simp [base]) rfl rfl rfl rfl (by kernel_rfl) ?_
      refine held55 h2 hcn hin.2.1 hl hlx hxx ?_
      intro a F3 u3 C3 h3 hF3 hk3
      rw [Frame.finish_at]
      have hfz3 := (M.plain h3).1
      have hbr' : u3.heap[r]? = some (.cells #[num 0, num 0] 34 (0, 0)) := (hk3 r (hF2 r hFr)).trans ((hk2 r hFr).trans hbr)
      have r0 : u3.cell? ⟨r, 0, none⟩ = some (.int .i64 0) := (blk_cell hbr' 0).trans rfl
      have r1 : u3.cell? ⟨r, 1, none⟩ = some (.int .i64 0) := (blk_cell hbr' 1).trans rfl
      have z0 : u3.frozen? ⟨r, 0, none⟩ = false := blk_thawed hbr' 0
      have z1 : u3.frozen? ⟨r, 1, none⟩ = false := blk_thawed hbr' 1
      simp only [ansV]
      refine Wn.span1 5 1 1 (by simp [base]) (by decide) (by decide) (by rw [hfz3]; kernel_rfl) ?_
      simp only [List.take, List.drop]
      go_wp2_with fail
      refine ⟨rfl, ?_⟩
      refine Wn.range_end ?_
      obtain ⟨h9, hb9, hk9⟩ := M.answer h3 (hF3 _ (hF2 _ hFr)) hbr' a.code a.val
      refine Wn.ret (Wn.back rfl rfl Try.func56 (res34 (a := ⟨a.code, a.val⟩) rfl rfl hb9) ?_)
      exact HN.out _ _ _ C3 h9 (fun b hb => hF3 b (hF2 b (hF1 b hb))) (((hk1.trans' hF1 hk2).trans' (fun b hb => hF2 b (hF1 b hb)) hk3).trans (hk9 F hnr))
    | false =>
      simp only [Bool.false_eq_true, if_false] at h2
      refine Wn.span1 7 3 3 (by simp [base]) (by decide) (by decide) (by rw [hfz2]; kernel_rfl) ?_
      simp only [List.take, List.drop]
      go_wp2_with fail
      refine ⟨rfl, ?_⟩
      refine Wn.range_end (n := 0) (Wn.cond rfl ?_)
      simp only [if_true]
      have hbr' : u2.heap[r]? = some (.cells #[num 0, num 0] 34 (0, 0)) := (hk2 r hFr).trans hbr
      have r0 : u2.cell? ⟨r, 0, none⟩ = some (.int .i64 0) := (blk_cell hbr' 0).trans rfl
      have r1 : u2.cell? ⟨r, 1, none⟩ = some (.int .i64 0) := (blk_cell hbr' 1).trans rfl
      have z0 : u2.frozen? ⟨r, 0, none⟩ = false := blk_thawed hbr' 0
      have z1 : u2.frozen? ⟨r, 1, none⟩ = false := blk_thawed hbr' 1
      refine Wn.seq (Wn.reg (by simp [base]) (by rw [hfz2]; kernel_rfl) ?_)
      go_wp2_with fail
      refine ⟨rfl, ?_⟩
      obtain ⟨h9, hb9, hk9⟩ := M.answer h2 (hF2 _ hFr) hbr' 4 0
      refine Wn.ret (Wn.back rfl rfl Try.func56 (res34 (a := ⟨4, 0⟩) rfl rfl hb9) ?_)
      exact HN.out _ _ _ C2 h9 (fun b hb => hF2 b (hF1 b hb)) ((hk1.trans' hF1 hk2).trans (hk9 F hnr))
  · have d1 : (c.op == 1) = false := beq_eq_false_iff_ne.mpr e1
    have d1' : decide (c.op = 1) = false := decide_eq_false e1
    have p0 : u1.cell? ⟨pb, 0, none⟩ = some (.int .i64 c.op) := (blk_cell hbp 0).trans rfl
    refine Wn.seq (Wn.open ?_)
    refine Wn.span1 0 6 10 (by simp [base]) (by decide) (by decide) (by rw [hfz]; kernel_rfl) ?_
    simp only [List.take, List.drop]
    go_wp2_with fail
    refine ⟨rfl, ?_⟩
    refine Wn.skipC 6 4 3 rfl rfl rfl ?_
    refine Wn.span1 7 3 3 (by simp [base]) (by decide) (by decide) (by rw [hfz]; kernel_rfl) ?_
    simp only [List.take, List.drop]
    go_wp2_with fail
    refine ⟨rfl, ?_⟩
    refine Wn.range_end (n := 0) (Wn.cond rfl ?_)
    simp only [Bool.false_eq_true, if_false]
    by_cases e2 : c.op = 2
    · have hdo : doLock f c k = tryP 0 1 (fun b => if b then heldP 1 2 c.a k else k ⟨0, -1⟩) := by unfold doLock; rw [if_neg e1, if_pos e2]
      rw [hdo] at h1
      have d2 : (c.op == 2) = true := beq_iff_eq.mpr e2
      have d2' : decide (c.op = 2) = true := decide_eq_true e2
      have x1 : u1.cell? ⟨lx, 0, none⟩ = some (.pointer (some ⟨lb, 0, none⟩)) := (blk_cell (M.rof h1 _ _ hlx) 0).trans rfl
      refine Wn.seq (Wn.open ?_)
      refine Wn.span1 0 6 10 (by simp [base]) (by decide) (by decide) (by rw [hfz]; kernel_rfl) ?_
      simp only [List.take, List.drop]
      go_wp2_with fail
      refine ⟨rfl, ?_⟩
      refine Wn.callC 6 4 3 rfl (by simp [base]) rfl rfl rfl (by kernel_rfl) ?_
      refine try28 h1 (by omega) (by omega) hl ?_
      intro e F2 u2 C2 h2 hF2 hk2
      rw [Frame.finish_at]
      have hfz2 := (M.plain h2).1
      clear p0 x1
      cases e with
      | true =>
        simp only [if_true] at h2
        refine Wn.span1 7 3 3 (by simp [base]) (by decide) (by decide) (by rw [hfz2]; kernel_rfl) ?_
        simp only [List.take, List.drop]
        go_wp2_with fail
        refine ⟨rfl, ?_⟩
        refine Wn.range_end (n := 0) (Wn.cond rfl ?_)
        simp only [Bool.false_eq_true, if_false]
        have d3 : (c.op != 1) = true := bne_iff_ne.mpr e1
        have d4 : (c.op != 2) = false := by rw [e2]; rfl
        have p0 : u2.cell? ⟨pb, 0, none⟩ = some (.int .i64 c.op) := (blk_cell ((hk2 pb hFp).trans hbp) 0).trans rfl
        refine Wn.seq (Wn.reg (by simp [base]) (by rw [hfz2]; kernel_rfl) ?_)
        go_wp2_with fail
        refine ⟨rfl, ?_⟩
        refine Wn.cond rfl ?_
        simp only [Bool.false_eq_true, if_false]
        clear d1 d1' d2 d2' d3 d4 p0
        refine Wn.skip (Wn.inBlock ?_)
        have x3 : u2.cell? ⟨hx, 0, none⟩ = some (.func (.func 55) #[] #[ptr lx, ptr xx]) := (blk_cell (M.rof h2 _ _ hhx) 0).trans rfl
        have p1 : u2.cell? ⟨pb, 1, none⟩ = some (.int .i64 c.a) := (blk_cell ((hk2 pb hFp).trans hbp) 1).trans rfl
        refine Wn.seq (Wn.open ?_)
        refine Wn.span1 0 4 6 (by simp [base]) (by decide) (by decide) (by rw [hfz2]; kernel_rfl) ?_
        simp only [List.take, List.drop]
        go_wp2_with fail
        refine ⟨rfl, ?_⟩
        clear x3 p1
        refine Wn.callV (f := 55) (caps := #[ptr lx, ptr xx]) 4 2 1 rfl (by simp [base]) rfl rfl rfl rfl (by kernel_rfl) ?_
        refine held55 h2 hcn hin.2.1 hl hlx hxx ?_
        intro a F3 u3 C3 h3 hF3 hk3
        rw [Frame.finish_at]
        have hfz3 := (M.plain h3).1
        have hbr' : u3.heap[r]? = some (.cells #[num 0, num 0] 34 (0, 0)) := (hk3 r (hF2 r hFr)).trans ((hk2 r hFr).trans hbr)
        have r0 : u3.cell? ⟨r, 0, none⟩ = some (.int .i64 0) := (blk_cell hbr' 0).trans rfl
        have r1 : u3.cell? ⟨r, 1, none⟩ = some (.int .i64 0) := (blk_cell hbr' 1).trans rfl
        have z0 : u3.frozen? ⟨r, 0, none⟩ = false := blk_thawed hbr' 0
        have z1 : u3.frozen? ⟨r, 1, none⟩ = false := blk_thawed hbr' 1
        simp only [ansV]
        refine Wn.span1 5 1 1 (by simp [base]) (by decide) (by decide) (by rw [hfz3]; kernel_rfl) ?_
        simp only [List.take, List.drop]
        go_wp2_with fail
        refine ⟨rfl, ?_⟩
        refine Wn.range_end ?_
        obtain ⟨h9, hb9, hk9⟩ := M.answer h3 (hF3 _ (hF2 _ hFr)) hbr' a.code a.val
        refine Wn.ret (Wn.back rfl rfl Try.func56 (res34 (a := ⟨a.code, a.val⟩) rfl rfl hb9) ?_)
        exact HN.out _ _ _ C3 h9 (fun b hb => hF3 b (hF2 b (hF1 b hb))) (((hk1.trans' hF1 hk2).trans' (fun b hb => hF2 b (hF1 b hb)) hk3).trans (hk9 F hnr))
      | false =>
        simp only [Bool.false_eq_true, if_false] at h2
        refine Wn.span1 7 3 3 (by simp [base]) (by decide) (by decide) (by rw [hfz2]; kernel_rfl) ?_
        simp only [List.take, List.drop]
        go_wp2_with fail
        refine ⟨rfl, ?_⟩
        refine Wn.range_end (n := 0) (Wn.cond rfl ?_)
        simp only [if_true]
        have hbr' : u2.heap[r]? = some (.cells #[num 0, num 0] 34 (0, 0)) := (hk2 r hFr).trans hbr
        have r0 : u2.cell? ⟨r, 0, none⟩ = some (.int .i64 0) := (blk_cell hbr' 0).trans rfl
        have r1 : u2.cell? ⟨r, 1, none⟩ = some (.int .i64 0) := (blk_cell hbr' 1).trans rfl
        have z0 : u2.frozen? ⟨r, 0, none⟩ = false := blk_thawed hbr' 0
        have z1 : u2.frozen? ⟨r, 1, none⟩ = false := blk_thawed hbr' 1
        refine Wn.seq (Wn.reg (by simp [base]) (by rw [hfz2]; kernel_rfl) ?_)
        go_wp2_with fail
        refine ⟨rfl, ?_⟩
        obtain ⟨h9, hb9, hk9⟩ := M.answer h2 (hF2 _ hFr) hbr' 0 (-1)
        refine Wn.ret (Wn.back rfl rfl Try.func56 (res34 (a := ⟨0, (-1)⟩) rfl rfl hb9) ?_)
        exact HN.out _ _ _ C2 h9 (fun b hb => hF2 b (hF1 b hb)) ((hk1.trans' hF1 hk2).trans (hk9 F hnr))
    · have hdo : doLock f c k = k ⟨1, 0⟩ := by unfold doLock; rw [if_neg e1, if_neg e2]
      rw [hdo] at h1
      have d2 : (c.op == 2) = false := beq_eq_false_iff_ne.mpr e2
      have d2' : decide (c.op = 2) = false := decide_eq_false e2
      refine Wn.seq (Wn.open ?_)
      refine Wn.span1 0 6 10 (by simp [base]) (by decide) (by decide) (by rw [hfz]; kernel_rfl) ?_
      simp only [List.take, List.drop]
      go_wp2_with fail
      refine ⟨rfl, ?_⟩
      refine Wn.skipC 6 4 3 rfl rfl rfl ?_
      refine Wn.span1 7 3 3 (by simp [base]) (by decide) (by decide) (by rw [hfz]; kernel_rfl) ?_
      simp only [List.take, List.drop]
      go_wp2_with fail
      refine ⟨rfl, ?_⟩
      refine Wn.range_end (n := 0) (Wn.cond rfl ?_)
      simp only [Bool.false_eq_true, if_false]
      have d3 : (c.op != 1) = true := bne_iff_ne.mpr e1
      have d4 : (c.op != 2) = true := bne_iff_ne.mpr e2
      refine Wn.seq (Wn.reg (by simp [base]) (by rw [hfz]; kernel_rfl) ?_)
      go_wp2_with fail
      refine ⟨rfl, ?_⟩
      refine Wn.cond rfl ?_
      simp only [if_true]
      clear d1 d1' d2 d2' d3 d4 p0
      have hbr' := hbr
      have r0 : u1.cell? ⟨r, 0, none⟩ = some (.int .i64 0) := (blk_cell hbr' 0).trans rfl
      have r1 : u1.cell? ⟨r, 1, none⟩ = some (.int .i64 0) := (blk_cell hbr' 1).trans rfl
      have z0 : u1.frozen? ⟨r, 0, none⟩ = false := blk_thawed hbr' 0
      have z1 : u1.frozen? ⟨r, 1, none⟩ = false := blk_thawed hbr' 1
      refine Wn.seq (Wn.reg (by simp [base]) (by rw [hfz]; kernel_rfl) ?_)
      go_wp2_with fail
      refine ⟨rfl, ?_⟩
      obtain ⟨h9, hb9, hk9⟩ := M.answer h1 hFr hbr' 1 0
      refine Wn.ret (Wn.back rfl rfl Try.func56 (res34 (a := ⟨1, 0⟩) rfl rfl hb9) ?_)
      exact HN.out _ _ _ C h9 hF1 (hk1.trans (hk9 F hnr))
end
theorem lock_do {L : Lay} {i T b0 b1 b2 lb lx xx hx f : Nat} (hcn : L.cn = 3) (hcb : L.cb = [b0, b1, b2]) (hl : L.ro lb = some (.cells #[ptr b0, ptr b1] 95 (0, 0))) (hlx : L.ro lx = some (.cells #[ptr lb] 51 (0, 0))) (hxx : L.ro xx = some (.cells #[ptr b2] 64 (0, 0))) (hhx : L.ro hx = some (.cells #[.func (.func 55) #[] #[ptr lx, ptr xx]] 96 (0, 0))) :
    DoOK (worldMode L i T) 56 #[ptr lx, ptr hx] (doLock f) := by
  intro c k F u C fr cs hin h hn
  refine do56 (M := worldMode L i T) (lb := lb) (lx := lx) (xx := xx) (hx := hx) hin h (by show 2 < L.cn; omega) ?_ hlx ?_ hhx hn
  · show L.ro lb = some (.cells #[ptr (L.cb.getD 0 0), ptr (L.cb.getD 1 0)] 95 (0, 0))
    rw [hcb]; exact hl
  · show L.ro xx = some (.cells #[ptr (L.cb.getD 2 0)] 64 (0, 0))
    rw [hcb]; exact hxx
end Go.Proofs.Ytoabkcalphpkhaa

/- lock.New, lock.Play. (Printed by gen_lockplay.py.) -/
namespace Go.Proofs.Ytoabkcalphpkhaa
open Go Go.Conc Go.RowKit
open Go.Proofs.YtoabkcalphpkhaaW.PrintWords
set_option linter.unusedVariables false
set_option linter.unusedSimpArgs false
set_option linter.unusedSectionVars false
set_option maxRecDepth 100000

@[local go_sem] theorem store_func {P : Program} {w : World} {a : Addr} {m : Go.Mode} (fn : Fn) (first captured : Array Value) : (store a (.func fn first captured) m).run P w = stored P w a (.func fn first captured) m := run_store P w a _ m rfl

section
variable {C : Ctx Try.prog} {u : World} {fr : Frame} {cs : List Frame} {W : Nat}
/-- lock.New, of a world. -/
theorem lockNew26 (hfz : C.fz = true) {back : Nat} {sv cv : Value} {sched : List Int} (hf : Fresh0 W back sv cv sched 0 [] [] u)
    (hn : ∀ b0 b1 lb cv' u', Fresh0 W back sv cv' sched 2 [b0, b1] [0, 0] u' → Keep0 W cv u u' → (∀ k, cv'.ownBlock = some k → cv.ownBlock = some k ∨ u.heap.size ≤ k) → u.heap.size ≤ b0 → u.heap.size ≤ b1 → u.heap.size ≤ lb → u'.heap[lb]? = some (.cells #[ptr b0, ptr b1] 95 (0, 0)) → Wn C (fr.finish (ptr lb)) cs u') :
    Wn C (Frame.enter Try.prog 26 #[ptr W] .normal) (fr :: cs) u := by
  refine Wn.body Try.func26 rfl ?_
  simp only [Try.ntmps26, List.size_toArray, List.length_cons, List.length_nil, Nat.reduceAdd, Nat.reduceSub, Array.replicate_succ, Array.replicate_zero, List.push_toArray, List.append_toArray, List.nil_append, List.cons_append]
  refine Wn.seq (Wn.reg (by simp [base]) (by rw [hfz]; kernel_rfl) ?_)
  go_wp2_with fail
  refine ⟨rfl, ?_⟩
  refine Wn.seq (Wn.open ?_)
  refine Wn.span1 0 1 3 (by simp [base]) (by decide) (by decide) (by rw [hfz]; kernel_rfl) ?_
  simp only [List.take, List.drop]
  go_wp2_with fail
  refine ⟨rfl, ?_⟩
  refine Wn.callC 1 2 1 rfl (by simp [base]) rfl rfl rfl (by kernel_rfl) ?_
  refine cellNew37 (cb := []) (vals := []) hfz hf (by decide) (v := 0) (by unfold In64; omega) ?_
  intro b0 cv0 u1 hf1 hk1 hown hbN
  have hf1 : Fresh0 W back sv cv0 sched 1 [b0] [0] u1 := hf1
  rw [Frame.finish_at]
  have HN : Hid _ := hn
  have HK : Hid (Keep0 W cv u u1) := hk1
  have HO : Hid (∀ k, cv0.ownBlock = some k → cv.ownBlock = some k ∨ u.heap.size ≤ k) := hown
  have HB : Hid (u.heap.size ≤ b0) := hbN
  clear hf hk1 hown hn hbN
  refine Wn.span1 2 1 1 (by simp [base]) (by decide) (by decide) (by rw [hfz]; kernel_rfl) ?_
  simp only [List.take, List.drop]
  go_wp2_with fail
  refine ⟨rfl, ?_⟩
  refine Wn.range_end (n := 0) ?_
  refine Wn.seq (Wn.open ?_)
  refine Wn.span1 0 2 6 (by simp [base]) (by decide) (by decide) (by rw [hfz]; kernel_rfl) ?_
  simp only [List.take, List.drop]
  go_wp2_with fail
  refine ⟨rfl, ?_⟩
  refine Wn.callC 2 4 3 rfl (by simp [base]) rfl rfl rfl (by kernel_rfl) ?_
  refine cellNew37 (cb := [b0]) (vals := [0]) hfz hf1 (by simp) (v := 0) (by unfold In64; omega) ?_
  intro b1 cv1 u2 hf2 hk2 hown2 hbN2
  have hf2 : Fresh0 W back sv cv1 sched 2 [b0, b1] [0, 0] u2 := hf2
  rw [Frame.finish_at]
  have HF : Hid (Fresh0 W back sv cv1 sched 2 [b0, b1] [0, 0] u2) := hf2
  have HK2 : Hid (Keep0 W cv u u2) := HK.out.trans hk2 HO.out
  have HO2 : Hid (∀ k, cv1.ownBlock = some k → cv.ownBlock = some k ∨ u.heap.size ≤ k) := fun k hk => by
    rcases hown2 k hk with h | h
    · exact HO.out k h
    · right; have := HK.out.size; omega
  have HB2 : Hid (u.heap.size ≤ b1) := by have := HK.out.size; show u.heap.size ≤ b1; omega
  clear hf1 hf2 hk2 hown2 hbN2
  refine Wn.span1 3 3 3 (by simp [base]) (by decide) (by decide) (by rw [hfz]; kernel_rfl) ?_
  simp only [List.take, List.drop]
  go_wp2_with fail
  refine ⟨rfl, ?_⟩
  have hg := Grown.alloc u2 (.cells #[ptr b0, ptr b1] 95)
  have hb : (u2.alloc (.cells #[ptr b0, ptr b1] 95)).heap[u2.heap.size]? = some (.cells #[ptr b0, ptr b1] 95 (0, 0)) := heap_alloc_new _ _
  generalize u2.alloc (.cells #[ptr b0, ptr b1] 95) = u3 at hg hb ⊢
  refine Wn.range_end (n := 0) (Wn.ret ?_)
  refine Wn.back rfl rfl Try.func26 (results_tmp rfl _ _ _) ?_
  exact HN.out b0 b1 _ cv1 u3 (HF.out.grown hg) (HK2.out.trans (Keep0.of_grown (cv := cv1) hg) HO2.out) HO2.out HB.out HB2.out HK2.out.size hb
/-- .. of no world. -/
theorem lockNew26_nil (hfz : C.fz = true) (hn : ∀ b0 b1 lb u', u'.heap[b0]? = some (.cells (cCells 0 0) 105 (0, 0)) → u'.heap[b1]? = some (.cells (cCells 0 0) 105 (0, 0)) → b0 ≠ b1 → u'.heap[lb]? = some (.cells #[ptr b0, ptr b1] 95 (0, 0)) → Grown u u' → u.heap.size ≤ b0 → u.heap.size ≤ b1 → u.heap.size ≤ lb → Wn C (fr.finish (ptr lb)) cs u') :
    Wn C (Frame.enter Try.prog 26 #[.pointer none] .normal) (fr :: cs) u := by
  refine Wn.body Try.func26 rfl ?_
  simp only [Try.ntmps26, List.size_toArray, List.length_cons, List.length_nil, Nat.reduceAdd, Nat.reduceSub, Array.replicate_succ, Array.replicate_zero, List.push_toArray, List.append_toArray, List.nil_append, List.cons_append]
  refine Wn.seq (Wn.reg (by simp [base]) (by rw [hfz]; kernel_rfl) ?_)
  go_wp2_with fail
  refine ⟨rfl, ?_⟩
  refine Wn.seq (Wn.open ?_)
  refine Wn.span1 0 1 3 (by simp [base]) (by decide) (by decide) (by rw [hfz]; kernel_rfl) ?_
  simp only [List.take, List.drop]
  go_wp2_with fail
  refine ⟨rfl, ?_⟩
  refine Wn.callC 1 2 1 rfl (by simp [base]) rfl rfl rfl (by kernel_rfl) ?_
  refine cellNew37_nil hfz ?_
  intro b0 u1 hb0 hg1 hbN
  rw [Frame.finish_at]
  have HB0 : Hid (u1.heap[b0]? = some (.cells (cCells 0 0) 105 (0, 0))) := hb0
  have HG1 : Hid (Grown u u1) := hg1
  have HN0 : Hid (u.heap.size ≤ b0) := hbN
  have HN : Hid _ := hn
  clear hb0 hg1 hbN hn
  refine Wn.span1 2 1 1 (by simp [base]) (by decide) (by decide) (by rw [hfz]; kernel_rfl) ?_
  simp only [List.take, List.drop]
  go_wp2_with fail
  refine ⟨rfl, ?_⟩
  refine Wn.range_end (n := 0) ?_
  refine Wn.seq (Wn.open ?_)
  refine Wn.span1 0 2 6 (by simp [base]) (by decide) (by decide) (by rw [hfz]; kernel_rfl) ?_
  simp only [List.take, List.drop]
  go_wp2_with fail
  refine ⟨rfl, ?_⟩
  refine Wn.callC 2 4 3 rfl (by simp [base]) rfl rfl rfl (by kernel_rfl) ?_
  refine cellNew37_nil hfz ?_
  intro b1 u2 hb1 hg2 hbN
  rw [Frame.finish_at]
  have HB1 : Hid (u2.heap[b1]? = some (.cells (cCells 0 0) 105 (0, 0))) := hb1
  have HG2 : Hid (Grown u1 u2) := hg2
  have HN1 : Hid (u1.heap.size ≤ b1) := hbN
  clear hb1 hg2 hbN
  refine Wn.span1 3 3 3 (by simp [base]) (by decide) (by decide) (by rw [hfz]; kernel_rfl) ?_
  simp only [List.take, List.drop]
  go_wp2_with fail
  refine ⟨rfl, ?_⟩
  have hg := Grown.alloc u2 (.cells #[ptr b0, ptr b1] 95)
  have hb : (u2.alloc (.cells #[ptr b0, ptr b1] 95)).heap[u2.heap.size]? = some (.cells #[ptr b0, ptr b1] 95 (0, 0)) := heap_alloc_new _ _
  generalize u2.alloc (.cells #[ptr b0, ptr b1] 95) = u3 at hg hb ⊢
  refine Wn.range_end (n := 0) (Wn.ret ?_)
  refine Wn.back rfl rfl Try.func26 (results_tmp rfl _ _ _) ?_
  have hlt := blk_lt HB0.out
  have h1 := HG1.out.size
  have h2 := HG2.out.size
  have h3 := HN1.out
  exact HN.out b0 b1 _ u3 ((hg.blk _ (by omega)).trans ((HG2.out.blk _ hlt).trans HB0.out)) ((hg.blk _ (blk_lt HB1.out)).trans HB1.out) (by omega) hb ((HG1.out.trans HG2.out).trans hg) HN0.out (by omega) (by omega)
end

section
variable {Post : Value → World → Prop} {N : Nat} {u : World} {fr : Frame} {cs : List Frame} {W back : Nat} {sv : Value} {sched : List Int}
set_option maxHeartbeats 2000000 in
theorem lockPlay31 {K f : Nat} {scripts : List (List Cal)} {SA : Option Addr} {scp : Nat} {fin : Sys × List Park} (hN : 0 < N) (hf : Fresh0 W back sv (.slice none 0 0) sched 0 [] [] u) (hsc : ScrW W u SA scripts) (hmx : scripts.length ≤ 9223372036854775806) (hin : ∀ l ∈ scripts, ∀ c ∈ l, CalIn c)
    (hrun : mayOf scripts false = 0 → spawn sched K (scripts.map fun l => oneP (doLock f) 0 l []) ⟨0, -1, [0, 0, 0], [0, 0, 0], [], false⟩ [] = some fin ∧ fin.1.trace.length ≤ roomB)
    (hbad : mayOf scripts false ≠ 0 → Wn (ctxP Post N S0 list0) (fr.finish (.tuple #[.slice none 0 0, num (mayOf scripts false)])) cs u)
    (hn : mayOf scripts false = 0 → ∀ v u', Played W back fin u u' v → Wn (ctxP Post (N + scripts.length) S0 list0) (fr.finish (.tuple #[v, num 0])) cs u') :
    Wn (ctxP Post N S0 list0) (Frame.enter Try.prog 31 #[ptr W, .slice SA scripts.length scp] .normal) (fr :: cs) u := by
  have hfz : (ctxP Post N S0 list0).fz = true := rfl
  have hrun : Hid _ := hrun
  have hbad : Hid _ := hbad
  have hn : Hid _ := hn
  refine Wn.body Try.func31 rfl ?_
  simp only [Try.ntmps31, List.size_toArray, List.length_cons, List.length_nil, Nat.reduceAdd, Nat.reduceSub, Array.replicate_succ, Array.replicate_zero, List.push_toArray, List.append_toArray, List.nil_append, List.cons_append]
  refine Wn.seq (Wn.reg (by simp [base]) (by rw [hfz]; kernel_rfl) ?_)
  go_wp2_with fail
  refine ⟨rfl, ?_⟩
  refine Wn.seq (Wn.seq (Wn.open ?_))
  refine Wn.span1 0 2 4 (by simp [base]) (by decide) (by decide) (by rw [hfz]; kernel_rfl) ?_
  simp only [List.take, List.drop]
  go_wp2_with fail
  refine ⟨rfl, ?_⟩
  refine Wn.callC 2 2 1 rfl (by simp [base]) rfl rfl rfl (by kernel_rfl) ?_
  refine may49 hfz hmx hsc.lists ((blk_cell hf.w 7).trans rfl) ?_
  rw [Frame.finish_at]
  refine Wn.span1 3 1 1 (by simp [base]) (by decide) (by decide) (by rw [hfz]; kernel_rfl) ?_
  simp only [List.take, List.drop]
  go_wp2_with fail
  refine ⟨rfl, ?_⟩
  refine Wn.range_end ?_
  by_cases hm : mayOf scripts false = 0
  · have hrun := hrun.out hm
    have hn := hn.out hm
    have hrun : Hid _ := hrun
    have hn : Hid _ := hn
    have HM : Hid _ := hm
    rw [hm]
    clear hbad hm
    refine Wn.seq (Wn.reg (by simp [base]) (by rw [hfz]; kernel_rfl) ?_)
    go_wp2_with fail
    refine ⟨rfl, ?_⟩
    refine Wn.cond rfl ?_
    simp only [Bool.false_eq_true, if_false]
    refine Wn.skip (Wn.seq (Wn.open ?_))
    refine Wn.span1 0 1 4 (by simp [base]) (by decide) (by decide) (by rw [hfz]; kernel_rfl) ?_
    simp only [List.take, List.drop]
    go_wp2_with fail
    refine ⟨rfl, ?_⟩
    refine Wn.callC 1 3 2 rfl (by simp [base]) rfl rfl rfl (by kernel_rfl) ?_
    refine lockNew26 hfz hf ?_
    intro b0 b1 lb cv u1 hf1 hk1 hown hbN0 hbN1 hlbN hlb
    rw [Frame.finish_at]
    have HF : Hid (Fresh0 W back sv cv sched 2 [b0, b1] [0, 0] u1) := hf1
    have HK : Hid (Keep0 W (.slice none 0 0) u u1) := hk1
    have HO : Hid (∀ k, cv.ownBlock = some k → (Value.slice none 0 0).ownBlock = some k ∨ u.heap.size ≤ k) := hown
    have HB0 : Hid (u.heap.size ≤ b0) := hbN0
    have HB1 : Hid (u.heap.size ≤ b1) := hbN1
    have HLN : Hid (u.heap.size ≤ lb) := hlbN
    have HL : Hid (u1.heap[lb]? = some (.cells #[ptr b0, ptr b1] 95 (0, 0))) := hlb
    have HSC : Hid (ScrW W u SA scripts) := hsc
    clear hf hf1 hk1 hown hbN0 hbN1 hlb hsc hlbN
    refine Wn.span1 2 2 2 (by simp [base]) (by decide) (by decide) (by rw [hfz]; kernel_rfl) ?_
    simp only [List.take, List.drop]
    go_wp2_with fail
    refine ⟨rfl, ?_⟩
    have hg := Grown.alloc u1 (.cells #[ptr lb] 51)
    have hlx : (u1.alloc (.cells #[ptr lb] 51)).heap[u1.heap.size]? = some (.cells #[ptr lb] 51 (0, 0)) := heap_alloc_new _ _
    generalize u1.alloc (.cells #[ptr lb] 51) = u2 at hg hlx ⊢
    generalize u1.heap.size = lx at hlx ⊢
    have HLX : Hid (u2.heap[lx]? = some (.cells #[ptr lb] 51 (0, 0))) := hlx
    have HG : Hid (Grown u1 u2) := hg
    have hf2 := HF.out.grown hg
    clear hg hlx
    refine Wn.range_end (n := 0) ?_
    refine Wn.seq (Wn.open ?_)
    refine Wn.span1 0 1 4 (by simp [base]) (by decide) (by decide) (by rw [hfz]; kernel_rfl) ?_
    simp only [List.take, List.drop]
    go_wp2_with fail
    refine ⟨rfl, ?_⟩
    refine Wn.callC 1 3 2 rfl (by simp [base]) rfl rfl rfl (by kernel_rfl) ?_
    refine cellNew37 (cb := [b0, b1]) (vals := [0, 0]) hfz hf2 (by simp) (v := 0) (by unfold In64; omega) ?_
    intro b2 cv2 u3 hf3 hk3 hown3 hbN3
    have hf3 : Fresh0 W back sv cv2 sched 3 [b0, b1, b2] [0, 0, 0] u3 := hf3
    rw [Frame.finish_at]
    have HF3 : Hid (Fresh0 W back sv cv2 sched 3 [b0, b1, b2] [0, 0, 0] u3) := hf3
    have HK3 : Hid (Keep0 W cv u2 u3) := hk3
    have HO3 : Hid (∀ k, cv2.ownBlock = some k → cv.ownBlock = some k ∨ u2.heap.size ≤ k) := hown3
    have HB3 : Hid (u2.heap.size ≤ b2) := hbN3
    clear hf2 hf3 hk3 hown3 hbN3
    refine Wn.span1 2 2 2 (by simp [base]) (by decide) (by decide) (by rw [hfz]; kernel_rfl) ?_
    simp only [List.take, List.drop]
    go_wp2_with fail
    refine ⟨rfl, ?_⟩
    have hg4 := Grown.alloc u3 (.cells #[ptr b2] 64)
    have hxx : (u3.alloc (.cells #[ptr b2] 64)).heap[u3.heap.size]? = some (.cells #[ptr b2] 64 (0, 0)) := heap_alloc_new _ _
    generalize u3.alloc (.cells #[ptr b2] 64) = u4 at hg4 hxx ⊢
    generalize u3.heap.size = xx at hxx ⊢
    refine Wn.range_end (n := 0) ?_
    refine Wn.seq (Wn.reg (by simp [base]) (by rw [hfz]; kernel_rfl) ?_)
    go_wp2_with fail
    refine ⟨rfl, ?_⟩
    have hg5 := Grown.alloc u4 (.cells #[.func (.func 55) #[] #[ptr lx, ptr xx]] 96)
    have hhx : (u4.alloc (.cells #[.func (.func 55) #[] #[ptr lx, ptr xx]] 96)).heap[u4.heap.size]? = some (.cells #[.func (.func 55) #[] #[ptr lx, ptr xx]] 96 (0, 0)) := heap_alloc_new _ _
    generalize u4.alloc (.cells #[.func (.func 55) #[] #[ptr lx, ptr xx]] 96) = u5 at hg5 hhx ⊢
    generalize u4.heap.size = hx at hhx ⊢
    refine Wn.seq (Wn.open ?_)
    refine Wn.span1 0 3 6 (by simp [base]) (by decide) (by decide) (by rw [hfz]; kernel_rfl) ?_
    simp only [List.take, List.drop]
    go_wp2_with fail
    refine ⟨rfl, ?_⟩
    refine Wn.callC 3 3 2 rfl (by simp [base]) rfl rfl rfl (by kernel_rfl) ?_
    have hlt : ∀ {x : Nat} {o : Obj}, u3.heap[x]? = some o → u5.heap[x]? = some o := fun h => (hg5.blk _ (Nat.lt_of_lt_of_le (blk_lt h) hg4.size)).trans ((hg4.blk _ (blk_lt h)).trans h)
    have h23 : ∀ {x : Nat} {c : Array Value} {t : Nat} {z : Nat × Nat}, u2.heap[x]? = some (.cells c t z) → t ≠ 80 → t ≠ 3 → u3.heap[x]? = some (.cells c t z) := fun {x c t z} h h80 h3 => by
      refine HK3.out.blk x _ h (fun e => ?_) (fun e => ?_)
      · subst e
        have h1 := HG.out.blk _ (blk_lt HF.out.w)
        rw [HF.out.w, h] at h1
        injection h1 with h1
        injection h1 with _ h1
        exact h80 h1
      · obtain ⟨c', h'⟩ := own_ty HF.out.ch e
        have h1 := HG.out.blk _ (blk_lt h')
        rw [h', h] at h1
        injection h1 with h1
        injection h1 with _ h1
        exact h3 h1
    have hlb5 := hlt (h23 ((HG.out.blk _ (blk_lt HL.out)).trans HL.out) (by decide) (by decide))
    have hlx5 := hlt (h23 HLX.out (by decide) (by decide))
    have hxx5 := (hg5.blk _ (blk_lt hxx)).trans hxx
    have hk12 : Keep0 W (.slice none 0 0) u u2 := HK.out.trans (Keep0.of_grown (cv := cv) HG.out) HO.out
    have hk13 : Keep0 W (.slice none 0 0) u u3 := hk12.trans HK3.out HO.out
    have hown2 : ∀ k, cv2.ownBlock = some k → (Value.slice none 0 0).ownBlock = some k ∨ u.heap.size ≤ k := fun k hk => by
      rcases HO3.out k hk with h | h
      · exact HO.out k h
      · right; have := hk12.size; omega
    have hk15 : Keep0 W (.slice none 0 0) u u5 := hk13.trans (Keep0.of_grown (cv := cv2) (hg4.trans hg5)) hown2
    refine play_run (cb := [b0, b1, b2]) (vals := [0, 0, 0]) (fid := 56) (caps := #[ptr lx, ptr hx]) (doP := doLock f) (fin := fin) (K := K) hN HSC.out HM.out hin (by kernel_rfl) (by simp) (HF3.out.grown (hg4.trans hg5)) hk15 (fun k hk => (hown2 k hk).elim (fun h => by cases h) fun h => h) (fun c hc => ?_) (fun L i T h1 h2 h3 => lock_do (b0 := b0) (b1 := b1) (b2 := b2) (lb := lb) (lx := lx) (xx := xx) (hx := hx) h1 h2 (h3 _ _ _ _ hlb5 (by decide) (by decide) (by decide)) (h3 _ _ _ _ hlx5 (by decide) (by decide) (by decide)) (h3 _ _ _ _ hxx5 (by decide) (by decide) (by decide)) (h3 _ _ _ _ hhx (by decide) (by decide) (by decide))) hrun.out ?_
    · have := hk12.size
      have := HB0.out
      have := HB1.out
      have := HB3.out
      simp only [List.mem_cons, List.not_mem_nil, or_false] at hc
      rcases hc with rfl | rfl | rfl <;> omega
    intro out u' hfl hpl
    have HN := hn.out _ u' hpl
    have HN : Hid _ := HN
    have hfz2 : (ctxP Post (N + scripts.length) S0 list0).fz = true := rfl
    rw [Frame.finish_at]
    clear hpl hfl hlt h23 hlb5 hlx5 hxx5 hk12 hk13 hown2 hk15 hg4 hg5 hxx hhx
    refine Wn.span1 4 2 2 (by simp [base]) (by decide) (by decide) (by rw [hfz2]; kernel_rfl) ?_
    simp only [List.take, List.drop]
    go_wp2_with fail
    refine ⟨rfl, ?_⟩
    refine Wn.range_end (n := 0) (Wn.ret ?_)
    refine Wn.back rfl rfl Try.func31 (results_list (rs := [.tmp 4, .tmp 5]) rfl (by simp) (.tmp (.tmp .nil))) ?_
    exact HN.out
  · have hbad := hbad.out hm
    have hbad : Hid _ := hbad
    obtain ⟨e, he⟩ : ∃ e, Hid (e = mayOf scripts false) := ⟨_, rfl⟩
    rw [← he.out] at hm hbad ⊢
    have d1 : (e != 0) = true := bne_iff_ne.mpr hm
    have d2 : decide (e = 0) = false := decide_eq_false hm
    have d3 : (e == 0) = false := beq_eq_false_iff_ne.mpr hm
    clear hrun hn he
    refine Wn.seq (Wn.reg (by simp [base]) (by rw [hfz]; kernel_rfl) ?_)
    go_wp2_with fail
    refine ⟨rfl, ?_⟩
    refine Wn.cond rfl ?_
    simp only [if_true]
    refine Wn.seq (Wn.reg (by simp [base]) (by rw [hfz]; kernel_rfl) ?_)
    go_wp2_with fail
    refine ⟨rfl, ?_⟩
    refine Wn.ret ?_
    refine Wn.back rfl rfl Try.func31 (results_list (rs := [.tmp 4, .tmp 5]) rfl (by simp) (.tmp (.tmp .nil))) ?_
    exact hbad.out
end
end Go.Proofs.Ytoabkcalphpkhaa

/- butlerlaw04's awake, LockNames. (Printed by gen_awake24.py.) -/
namespace Go.Proofs.Ytoabkcalphpkhaa
open Go Go.Conc Go.RowKit
open Go.Proofs.YtoabkcalphpkhaaW.PrintWords
set_option linter.unusedVariables false
set_option linter.unusedSimpArgs false
set_option linter.unusedSectionVars false
set_option maxRecDepth 100000

def awL : Option (Sys × List Park) := spawn [] 30 ([[(⟨1, 5, 0, 0⟩ : Cal), ⟨2, 7, 0, 0⟩]].map fun l => oneP (doLock 10) 0 l []) ⟨0, -1, [0, 0, 0], [0, 0, 0], [], false⟩ []
theorem awakeL_fin : ∃ fin, awL = some fin ∧ fin.1.trace.length ≤ 100 ∧ fin.2.map outOf = [[⟨0, 0⟩, ⟨0, 5⟩]] := by
  have h : awL.map (fun fin => (decide (fin.1.trace.length ≤ 100), fin.2.map outOf)) = some (true, [[⟨0, 0⟩, ⟨0, 5⟩]]) := by kernel_rfl
  obtain ⟨fin, h1, h2⟩ := Option.map_eq_some_iff.1 h
  injection h2 with h3 h4
  exact ⟨fin, h1, of_decide_eq_true h3, h4⟩

/-- Plain functions of this law's tail. -/
def SN : FuncId → Bool := fun f => (plainT ++ [25]).contains f
theorem plain_okN : ((plainT ++ [25]).all fun f => bodied Try.prog f && (match (Try.prog.funcs[f]?).bind (·.body) with | some c => codeOk Try.prog false SN c | none => false)) = true := by kernel_rfl
theorem listN : ListOk Try.prog false SN where
  bodied f hf := by
    have := List.all_eq_true.1 plain_okN f (by simpa [SN] using hf)
    simp only [Bool.and_eq_true] at this
    exact this.1
  code f hf c hc := by
    have := List.all_eq_true.1 plain_okN f (by simpa [SN] using hf)
    simp only [Bool.and_eq_true, hc] at this
    exact this.2
  ahead := by kernel_rfl
  ready g := list0.ready g

theorem num_calls {w : World} {e : Int} : Calls Try.prog 25 #[num e] w fun r u' => r = .returned (num e) ∧ u' = w := by
  go_enter Try.func25, Try.ntmps25
  go_wp2_with fail
  go_ret
  exact ⟨rfl, rfl⟩

section
variable {Post : Value → World → Prop} {N : Nat} {u : World} {fr : Frame} {cs : List Frame}
set_option maxHeartbeats 4000000 in
theorem awake24 (hN : 0 < N) (hn : ∀ u', Grown u u' → Wn (ctxQ Post (N + 1)) (fr.finish (.bool true)) cs u') : Wn (ctxQ Post N) (Frame.enter Try.prog 24 #[] .normal) (fr :: cs) u := by
  refine Wn.toP (S := S0) (l := list0) ?_
  have hfz : (ctxP Post N S0 list0).fz = true := rfl
  have hn : Hid (∀ u', Grown u u' → Wn (ctxQ Post (N + 1)) (fr.finish (.bool true)) cs u') := hn
  refine Wn.body Try.func24 rfl ?_
  simp only [Try.ntmps24, List.size_toArray, List.length_cons, List.length_nil, Nat.reduceAdd, Nat.reduceSub, Array.replicate_succ, Array.replicate_zero, List.push_toArray, List.append_toArray, List.nil_append, List.cons_append]
  refine Wn.seq (Wn.reg (by simp [base]) (by rw [hfz]; kernel_rfl) ?_)
  go_wp2_with fail
  refine ⟨rfl, ?_⟩
  refine Wn.seq (Wn.open ?_)
  refine Wn.callC 0 2 1 rfl (by simp [base]) rfl rfl rfl (by kernel_rfl) ?_
  refine new16 (A := none) (n := 0) (cp := 0) (xs := []) hfz rfl ⟨rfl, by decide, fun h => absurd h (by decide)⟩ (by decide) ?_
  intro W back sv u1 hg1 hWN hbkN hsvN hf1
  rw [Frame.finish_at]
  have HF : Hid (Fresh0 W back sv (.slice none 0 0) [] 0 [] [] u1) := hf1
  have HG : Hid (Grown u u1) := hg1
  have HW : Hid (u.heap.size ≤ W) := hWN
  have HB : Hid (u.heap.size ≤ back) := hbkN
  clear hf1 hg1 hWN hsvN hbkN
  refine Wn.span1 1 1 1 (by simp [base]) (by decide) (by decide) (by rw [hfz]; kernel_rfl) ?_
  simp only [List.take, List.drop]
  go_wp2_with fail
  refine ⟨rfl, ?_⟩
  refine Wn.range_end (n := 0) ?_
  refine Wn.seq (Wn.open ?_)
  refine Wn.span1 0 5 11 (by simp [base]) (by decide) (by decide) (by rw [hfz]; kernel_rfl) ?_
  simp only [List.take, List.drop]
  go_wp2_with fail
  refine ⟨rfl, ?_⟩
  have hg3 : Grown u1 ((u1.alloc (.cells #[num 1, num 5, num 0, num 0, num 2, num 7, num 0, num 0] 36)).alloc (.cells #[.slice (some ⟨u1.heap.size, 0, none⟩) 2 2] 32)) := (Grown.alloc _ _).trans (Grown.alloc _ _)
  have hb0 : ((u1.alloc (.cells #[num 1, num 5, num 0, num 0, num 2, num 7, num 0, num 0] 36)).alloc (.cells #[.slice (some ⟨u1.heap.size, 0, none⟩) 2 2] 32)).heap[u1.heap.size]? = some (.cells #[num 1, num 5, num 0, num 0, num 2, num 7, num 0, num 0] 36 (0, 0)) := heap_alloc2_old ..
  have hb1 : ((u1.alloc (.cells #[num 1, num 5, num 0, num 0, num 2, num 7, num 0, num 0] 36)).alloc (.cells #[.slice (some ⟨u1.heap.size, 0, none⟩) 2 2] 32)).heap[u1.heap.size + 1]? = some (.cells #[.slice (some ⟨u1.heap.size, 0, none⟩) 2 2] 32 (0, 0)) := heap_alloc2_new ..
  generalize (u1.alloc (.cells #[num 1, num 5, num 0, num 0, num 2, num 7, num 0, num 0] 36)).alloc (.cells #[.slice (some ⟨u1.heap.size, 0, none⟩) 2 2] 32) = u3 at hg3 hb0 hb1 ⊢
  obtain ⟨fin, hrun, htl, hout⟩ := awakeL_fin
  have hsc : ScrAt u3 (some ⟨u1.heap.size + 1, 0, none⟩) [[(⟨1, 5, 0, 0⟩ : Cal), ⟨2, 7, 0, 0⟩]] := by
    intro i l hl
    match i, hl with
    | 0, hl =>
      obtain rfl := Option.some.inj hl
      refine ⟨_, some ⟨u1.heap.size, 0, none⟩, 2, rfl, (blk_cell hb1 0).trans rfl, fun k c hc => ?_⟩
      match k, hc with
      | 0, hc =>
        obtain rfl := Option.some.inj hc
        exact ⟨_, rfl, (blk_cell hb0 0).trans rfl, (blk_cell hb0 1).trans rfl, (blk_cell hb0 2).trans rfl, (blk_cell hb0 3).trans rfl⟩
      | 1, hc =>
        obtain rfl := Option.some.inj hc
        exact ⟨_, rfl, (blk_cell hb0 4).trans rfl, (blk_cell hb0 5).trans rfl, (blk_cell hb0 6).trans rfl, (blk_cell hb0 7).trans rfl⟩
  have hWlt : W < u1.heap.size := blk_lt HF.out.w
  have hsw : ScrW W u3 (some ⟨u1.heap.size + 1, 0, none⟩) [[(⟨1, 5, 0, 0⟩ : Cal), ⟨2, 7, 0, 0⟩]] := by
    intro i l hl
    obtain ⟨ad, A, cp, h1, h2, h3⟩ := hsc i l hl
    match i, hl with
    | 0, hl =>
      obtain rfl := Option.some.inj hl
      cases h1
      have h2' : u3.cell? ⟨u1.heap.size + 1, 0, none⟩ = some (.slice (some ⟨u1.heap.size, 0, none⟩) 2 2) := (blk_cell hb1 0).trans rfl
      have h2'' : u3.cell? ⟨u1.heap.size + 1, 0, none⟩ = some (.slice A 2 cp) := h2
      rw [h2'] at h2''
      cases h2''
      exact ⟨_, _, _, rfl, by show u1.heap.size + 1 ≠ W; omega, fun aa e _ => by cases e; show u1.heap.size ≠ W; omega, h2, h3⟩
  clear hb0 hb1
  refine Wn.callC 5 6 5 rfl (by simp [base]) rfl rfl rfl (by kernel_rfl) ?_
  refine lockPlay31 (K := 30) (f := 10) (scripts := [[(⟨1, 5, 0, 0⟩ : Cal), ⟨2, 7, 0, 0⟩]]) (fin := fin) hN (HF.out.grown hg3) hsw (by decide) (by simp [CalIn, In64]) (fun _ => ⟨hrun, by unfold roomB; omega⟩) (fun h => absurd rfl h) ?_
  intro _ v u4 hpl
  refine Wn.toQ ?_
  show Wn (ctxQ Post (N + 1)) _ _ _
  have hfzq : (ctxQ Post (N + 1)).fz = false := rfl
  obtain ⟨ou, ev, hrows⟩ := hpl.rows (by rw [hout]; decide) (Grown.refl _)
  have hfl : fin.2.length = 1 := by have := congrArg List.length hout; simpa using this
  rw [hfl] at ev
  have HR : Hid (AnsRows u4 (some ⟨ou, 0, none⟩) [[⟨0, 0⟩, ⟨0, 5⟩]]) := by rw [← hout]; exact hrows
  have HG4 : Hid (Grown u u4) := hpl.grown (HG.out.trans hg3) HW.out HB.out
  clear hpl hrun hout hfl hrows hsw hsc hWlt hg3 HF HG HW HB htl
  subst ev
  generalize (⟨ou, 0, none⟩ : Addr) = oa at HR ⊢
  rw [Frame.finish_at]
  refine Wn.span1 6 5 5 (by simp [base]) (by decide) (by decide) (by rw [hfzq]; kernel_rfl) ?_
  simp only [List.take, List.drop]
  go_wp2_with fail
  refine ⟨rfl, ?_⟩
  refine Wn.range_end (n := 0) ?_
  obtain ⟨ad, Ai, ci, ea, q0, _, hA⟩ := HR.out 0 _ rfl
  cases ea
  have q0 : u4.cell? oa = some (.slice Ai 2 ci) := q0
  have HA : Hid (∀ (k : Nat) (a : Ans), ([⟨0, 0⟩, ⟨0, 5⟩] : List Ans)[k]? = some a → ∃ bd, Ai = some bd ∧ u4.cell? (bd.add (k * 2)) = some (num a.code) ∧ u4.cell? ⟨(bd.add (k * 2)).block, (bd.add (k * 2)).off + 1, none⟩ = some (num a.val)) := hA
  clear hA
  refine Wn.seq (Wn.seq (Wn.reg (by simp [base]) (by rw [hfzq]; kernel_rfl) ?_))
  go_wp2_with fail
  refine ⟨rfl, ?_⟩
  refine Wn.cond rfl ?_
  simp only [Bool.false_eq_true, if_false]
  refine Wn.skip ?_
  obtain ⟨bd, rfl, q1, q2⟩ := HA.out 0 _ rfl
  obtain ⟨bd', ebd, q3, q4⟩ := HA.out 1 _ rfl
  cases ebd
  have q1 : u4.cell? (bd.add 0) = some (num 0) := q1
  have q2 : u4.cell? ⟨bd.block, bd.off + 1, none⟩ = some (num 0) := q2
  have q3 : u4.cell? ⟨bd.block, bd.off + 2, none⟩ = some (num 0) := q3
  have q4 : u4.cell? ⟨bd.block, bd.off + 2 + 1, none⟩ = some (num 5) := q4
  clear HA HR
  refine Wn.seq (Wn.reg (by simp [base]) (by rw [hfzq]; kernel_rfl) ?_)
  go_wp2_with fail
  refine ⟨rfl, ?_⟩
  refine Wn.ret ?_
  refine Wn.back rfl rfl Try.func24 (results_tmp rfl _ _ _) ?_
  exact hn.out u4 HG4.out
end

section
variable {Post : Value → World → Prop} {u : World}
set_option maxHeartbeats 4000000 in
/-- LockNames. -/
theorem names6 (hpost : ∀ w, Grown u w → Post (.bool true) w) : Wn (ctxQ Post 1) (Frame.enter Try.prog 6 #[] .normal) [] u := by
  have hfz : (ctxQ Post 1).fz = false := rfl
  have hpost : Hid (∀ w, Grown u w → Post (.bool true) w) := hpost
  refine Wn.body Try.func6 rfl ?_
  simp only [Try.ntmps6, List.size_toArray, List.length_cons, List.length_nil, Nat.reduceAdd, Nat.reduceSub, Array.replicate_succ, Array.replicate_zero, List.push_toArray, List.append_toArray, List.nil_append, List.cons_append]
  refine Wn.seq (Wn.reg (by simp [base]) (by rw [hfz]; kernel_rfl) ?_)
  go_wp2_with fail
  refine ⟨rfl, ?_⟩
  refine Wn.seq (Wn.open ?_)
  refine Wn.callC 0 2 1 rfl (by simp [base]) rfl rfl rfl (by kernel_rfl) ?_
  refine awake24 (N := 1) (by decide) ?_
  intro u1 hg1
  rw [Frame.finish_at]
  have HG : Hid (Grown u u1) := hg1
  have hfzq : (ctxQ Post 2).fz = false := rfl
  show Wn (ctxQ Post 2) _ _ _
  refine Wn.span1 1 1 1 (by simp [base]) (by decide) (by decide) (by rw [hfzq]; kernel_rfl) ?_
  simp only [List.take, List.drop]
  go_wp2_with fail
  refine ⟨rfl, ?_⟩
  refine Wn.range_end (n := 0) ?_
  refine Wn.code listN rfl rfl (by kernel_rfl) (K := restAt 0 u) (fun a w τ d h => ⟨h.1.on τ d, h.2⟩) (fun τ d => ?_) (fun a' u' todo hd h => ?_)
  · have HG : Hid (Grown u (u1.on τ d)) := HG.out.on τ d
    generalize u1.on τ d = w at HG
    go_wp2_with fail
    refine num_calls.mono ?_
    rintro e w2 ⟨rfl, rfl⟩
    go_wp2_with fail
    refine num_calls.mono ?_
    rintro e w2 ⟨rfl, rfl⟩
    go_wp2_with fail
    refine num_calls.mono ?_
    rintro e w2 ⟨rfl, rfl⟩
    go_wp2_with fail
    refine num_calls.mono ?_
    rintro e w2 ⟨rfl, rfl⟩
    go_wp2_with fail
    exact ⟨rfl, HG.out, rfl⟩
  · exact Wn.finish (v := .bool true) (by decide) rfl hd Try.func6 (fun w => by rw [← h.2]; exact runT_results1 (fn := Try.f6) (t := 0) rfl _ w) rfl (fun _ => rfl) fun w hl => hpost.out w (grown_of_like h.1 hl)
end
end Go.Proofs.Ytoabkcalphpkhaa

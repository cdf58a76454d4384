/- Merged: Gate, GateDo. -/
import Derived.Test.YtoabkcalphpkhaaN12
/- Package gate: Enter, Leave, close, Shut, by whoever goes. (Printed by gen_gate.py.) -/
namespace Go.Proofs.Ytoabkcalphpkhaa
open Go Go.Conc Go.RowKit
open Go.Proofs.YtoabkcalphpkhaaW.PrintWords
set_option linter.unusedVariables false
set_option linter.unusedSimpArgs false
set_option linter.unusedSectionVars false
set_option maxRecDepth 100000

/-- Load; refuse, or Cas; again: so many rounds at most. -/
def casP (c : Nat) (no : Int → Bool) (up : Int → Int) (k : Bool → Proc) : Nat → Proc
  | 0 => .bad
  | f + 1 => .step c 1 id fun v => if no v = true then k false else .step c 4 (fun x => if x = v then up v else x) fun x => if x = v then k true else casP c no up k f
/-- Load, till something stands there; await between. -/
def untilP (c : Nat) (stop : Int → Bool) (k : Bool → Proc) : Nat → Proc
  | 0 => .bad
  | f + 1 => .step c 1 id fun v => if stop v = true then k true else .await c fun b => if b then untilP c stop k f else k false
def gShut (v : Int) : Bool := bits BinOp.and IntKind.i64 v 1 == 1
def gLow (v : Int) : Bool := decide (v < 2)
def gEnd (v : Int) : Bool := v == 1

section
variable {M : Mode} {F : Nat → Prop} {u : World} {C : Ctx Try.prog} {fr : Frame} {cs : List Frame} {c gb : Nat}
/-- Enter -/
theorem enter69 {k : Bool → Proc} {f : Nat} (h : M.At (.go (casP c gShut (fun v => wrap64 (v + 2)) k f)) F u C) (hc : c < M.cn) (hl : M.ro gb = some (.cells #[ptr (M.cb c)] 137 (0, 0)))
    (hn : ∀ b F' u' C', M.At (.go (k b)) F' u' C' → (∀ b, F b → F' b) → Keep F u u' → Wn C' (fr.finish (num (if b then 0 else 60))) cs u') : Wn C (Frame.enter Try.prog 69 #[ptr gb, ptr M.T] .normal) (fr :: cs) u := by
  have hfz := (M.plain h).1
  refine Wn.body Try.func69 rfl ?_
  simp only [Try.ntmps69, List.size_toArray, List.length_cons, List.length_nil, Nat.reduceAdd, Nat.reduceSub, Array.replicate_succ, Array.replicate_zero, List.push_toArray, List.append_toArray, List.nil_append, List.cons_append]
  refine Wn.seq (Wn.reg (by simp [base]) (by rw [hfz]; kernel_rfl) ?_)
  go_wp2_with fail
  refine ⟨rfl, ?_⟩
  refine Wn.block ?_
  refine Wn.loop_ind (f := f) (fun f a u1 C1 => ∃ F1, M.At (.go (casP c gShut (fun v => wrap64 (v + 2)) k f)) F1 u1 C1 ∧ (∀ b, F b → F1 b) ∧ Keep F u u1 ∧ ∃ x2 x3 x4 x5 x6 x7 x8 x9 x10 x11 x12 x13 x14 x15 x16 x17 x18 x19 x20 x21 x22 x23, a = { tmps := #[ptr gb, ptr M.T, x2, x3, x4, x5, x6, x7, x8, x9, x10, x11, x12, x13, x14, x15, x16, x17, x18, x19, x20, x21, x22, x23], defers := [] }) ?_ ?_ ⟨F, h, fun _ h => h, Keep.refl _ _, _, _, _, _, _, _, _, _, _, _, _, _, _, _, _, _, _, _, _, _, _, _, rfl⟩
  · rintro f ih a u1 C1 ⟨F1, h1, hF1, hk1, x2, x3, x4, x5, x6, x7, x8, x9, x10, x11, x12, x13, x14, x15, x16, x17, x18, x19, x20, x21, x22, x23, rfl⟩
    simp only [casP] at h1
    have hfz1 := (M.plain h1).1
    have hlb : u1.heap[gb]? = some (.cells #[ptr (M.cb c)] 137 (0, 0)) := M.rof h1 _ _ hl
    have hl0 : u1.cell? ⟨gb, 0, none⟩ = some (.pointer (some ⟨M.cb c, 0, none⟩)) := (blk_cell hlb 0).trans rfl
    clear hlb
    refine Wn.block (Wn.seq (Wn.open ?_))
    refine Wn.span1 0 5 7 (by simp [base]) (by decide) (by decide) (by rw [hfz1]; kernel_rfl) ?_
    simp only [List.take, List.drop]
    go_wp2_with fail
    refine ⟨rfl, ?_⟩
    refine Wn.callC 5 2 1 rfl (by simp [base]) rfl rfl rfl (by kernel_rfl) ?_
    refine load43 h1 hc ?_
    intro v F2 u2 C2 h2 hF2 hk2 hin
    rw [Frame.finish_at]
    have hfz2 := (M.plain h2).1
    clear hl0
    refine Wn.span1 6 1 1 (by simp [base]) (by decide) (by decide) (by rw [hfz2]; kernel_rfl) ?_
    simp only [List.take, List.drop]
    go_wp2_with fail
    refine ⟨rfl, ?_⟩
    refine Wn.range_end ?_
    by_cases hv : gShut v = true
    · rw [if_pos hv] at h2
      have hv' : (bits BinOp.and IntKind.i64 v 1 == 1) = true := hv
      have d1 : decide (bits BinOp.and IntKind.i64 v 1 = 1) = true := decide_eq_true (beq_iff_eq.1 hv')
      refine Wn.seq (Wn.seq (Wn.reg (by simp [base]) (by rw [hfz2]; kernel_rfl) ?_))
      go_wp2_with fail
      refine ⟨rfl, ?_⟩
      refine Wn.cond rfl ?_
      simp only [if_true]
      clear hv' d1 hv
      refine Wn.seq (Wn.reg (by simp [base]) (by rw [hfz2]; kernel_rfl) ?_)
      go_wp2_with fail
      refine ⟨rfl, ?_⟩
      refine Wn.ret ?_
      refine Wn.back rfl rfl Try.func69 (results_tmp rfl _ _ _) ?_
      exact hn false F2 u2 C2 h2 (fun b hb => hF2 b (hF1 b hb)) (hk1.trans' hF1 hk2)
    · rw [if_neg hv] at h2
      have hv' : (bits BinOp.and IntKind.i64 v 1 == 1) = false := Bool.eq_false_iff.2 hv
      have d1 : decide (bits BinOp.and IntKind.i64 v 1 = 1) = false := decide_eq_false (beq_eq_false_iff_ne.1 hv')
      refine Wn.seq (Wn.seq (Wn.reg (by simp [base]) (by rw [hfz2]; kernel_rfl) ?_))
      go_wp2_with fail
      refine ⟨rfl, ?_⟩
      refine Wn.cond rfl ?_
      simp only [Bool.false_eq_true, if_false]
      have hlb2 : u2.heap[gb]? = some (.cells #[ptr (M.cb c)] 137 (0, 0)) := M.rof h2 _ _ hl
      have hl2 : u2.cell? ⟨gb, 0, none⟩ = some (.pointer (some ⟨M.cb c, 0, none⟩)) := (blk_cell hlb2 0).trans rfl
      clear hlb2 hv' d1 hv
      refine Wn.skip (Wn.seq (Wn.open ?_))
      refine Wn.span1 0 8 9 (by simp [base]) (by decide) (by decide) (by rw [hfz2]; kernel_rfl) ?_
      simp only [List.take, List.drop]
      go_wp2_with fail
      refine ⟨rfl, ?_⟩
      refine Wn.callC 8 1 0 rfl (by simp [base]) rfl rfl rfl (by kernel_rfl) ?_
      refine cas40 (wrap64_in64 _) h2 hc ?_
      intro x F3 u3 C3 h3 hF3 hk3 hin3
      rw [Frame.finish_at]
      have hfz3 := (M.plain h3).1
      clear hl2
      refine Wn.range_end (Wn.cond rfl ?_)
      by_cases hx : x = v
      · subst hx
        simp only [if_true, decide_true] at h3 ⊢
        refine Wn.seq (Wn.reg (by simp [base]) (by rw [hfz3]; kernel_rfl) ?_)
        go_wp2_with fail
        refine ⟨rfl, ?_⟩
        refine Wn.ret ?_
        refine Wn.back rfl rfl Try.func69 (results_tmp rfl _ _ _) ?_
        exact hn true F3 u3 C3 h3 (fun b hb => hF3 b (hF2 b (hF1 b hb))) ((hk1.trans' hF1 hk2).trans' (fun b hb => hF2 b (hF1 b hb)) hk3)
      · simp only [if_neg hx] at h3
        rw [decide_eq_false hx]
        simp only [Bool.false_eq_true, if_false]
        refine Wn.skip (Wn.inBlock ?_)
        exact ih _ _ _ ⟨F3, h3, fun b hb => hF3 b (hF2 b (hF1 b hb)), (hk1.trans' hF1 hk2).trans' (fun b hb => hF2 b (hF1 b hb)) hk3, _, _, _, _, _, _, _, _, _, _, _, _, _, _, _, _, _, _, _, _, _, _, rfl⟩
  · rintro a u1 C1 ⟨F1, h1, _⟩
    exact M.nobad h1

/-- Leave -/
theorem leave70 {k : Bool → Proc} {f : Nat} (h : M.At (.go (casP c gLow (fun v => wrap64 (v - 2)) k f)) F u C) (hc : c < M.cn) (hl : M.ro gb = some (.cells #[ptr (M.cb c)] 137 (0, 0)))
    (hn : ∀ b F' u' C', M.At (.go (k b)) F' u' C' → (∀ b, F b → F' b) → Keep F u u' → Wn C' (fr.finish (num (if b then 0 else 61))) cs u') : Wn C (Frame.enter Try.prog 70 #[ptr gb, ptr M.T] .normal) (fr :: cs) u := by
  have hfz := (M.plain h).1
  refine Wn.body Try.func70 rfl ?_
  simp only [Try.ntmps70, List.size_toArray, List.length_cons, List.length_nil, Nat.reduceAdd, Nat.reduceSub, Array.replicate_succ, Array.replicate_zero, List.push_toArray, List.append_toArray, List.nil_append, List.cons_append]
  refine Wn.seq (Wn.reg (by simp [base]) (by rw [hfz]; kernel_rfl) ?_)
  go_wp2_with fail
  refine ⟨rfl, ?_⟩
  refine Wn.block ?_
  refine Wn.loop_ind (f := f) (fun f a u1 C1 => ∃ F1, M.At (.go (casP c gLow (fun v => wrap64 (v - 2)) k f)) F1 u1 C1 ∧ (∀ b, F b → F1 b) ∧ Keep F u u1 ∧ ∃ x2 x3 x4 x5 x6 x7 x8 x9 x10 x11 x12 x13 x14 x15 x16 x17 x18 x19 x20 x21 x22, a = { tmps := #[ptr gb, ptr M.T, x2, x3, x4, x5, x6, x7, x8, x9, x10, x11, x12, x13, x14, x15, x16, x17, x18, x19, x20, x21, x22], defers := [] }) ?_ ?_ ⟨F, h, fun _ h => h, Keep.refl _ _, _, _, _, _, _, _, _, _, _, _, _, _, _, _, _, _, _, _, _, _, _, rfl⟩
  · rintro f ih a u1 C1 ⟨F1, h1, hF1, hk1, x2, x3, x4, x5, x6, x7, x8, x9, x10, x11, x12, x13, x14, x15, x16, x17, x18, x19, x20, x21, x22, rfl⟩
    simp only [casP] at h1
    have hfz1 := (M.plain h1).1
    have hlb : u1.heap[gb]? = some (.cells #[ptr (M.cb c)] 137 (0, 0)) := M.rof h1 _ _ hl
    have hl0 : u1.cell? ⟨gb, 0, none⟩ = some (.pointer (some ⟨M.cb c, 0, none⟩)) := (blk_cell hlb 0).trans rfl
    clear hlb
    refine Wn.block (Wn.seq (Wn.open ?_))
    refine Wn.span1 0 5 7 (by simp [base]) (by decide) (by decide) (by rw [hfz1]; kernel_rfl) ?_
    simp only [List.take, List.drop]
    go_wp2_with fail
    refine ⟨rfl, ?_⟩
    refine Wn.callC 5 2 1 rfl (by simp [base]) rfl rfl rfl (by kernel_rfl) ?_
    refine load43 h1 hc ?_
    intro v F2 u2 C2 h2 hF2 hk2 hin
    rw [Frame.finish_at]
    have hfz2 := (M.plain h2).1
    clear hl0
    refine Wn.span1 6 1 1 (by simp [base]) (by decide) (by decide) (by rw [hfz2]; kernel_rfl) ?_
    simp only [List.take, List.drop]
    go_wp2_with fail
    refine ⟨rfl, ?_⟩
    refine Wn.range_end ?_
    by_cases hv : gLow v = true
    · rw [if_pos hv] at h2
      have hv' : v < 2 := of_decide_eq_true hv
      have d1 : decide (v < 2) = true := hv
      refine Wn.seq (Wn.seq (Wn.reg (by simp [base]) (by rw [hfz2]; kernel_rfl) ?_))
      go_wp2_with fail
      refine ⟨rfl, ?_⟩
      refine Wn.cond rfl ?_
      simp only [if_true]
      clear hv' d1 hv
      refine Wn.seq (Wn.reg (by simp [base]) (by rw [hfz2]; kernel_rfl) ?_)
      go_wp2_with fail
      refine ⟨rfl, ?_⟩
      refine Wn.ret ?_
      refine Wn.back rfl rfl Try.func70 (results_tmp rfl _ _ _) ?_
      exact hn false F2 u2 C2 h2 (fun b hb => hF2 b (hF1 b hb)) (hk1.trans' hF1 hk2)
    · rw [if_neg hv] at h2
      have hv' : ¬ v < 2 := fun e => hv (decide_eq_true e)
      have d1 : decide (v < 2) = false := decide_eq_false hv'
      refine Wn.seq (Wn.seq (Wn.reg (by simp [base]) (by rw [hfz2]; kernel_rfl) ?_))
      go_wp2_with fail
      refine ⟨rfl, ?_⟩
      refine Wn.cond rfl ?_
      simp only [Bool.false_eq_true, if_false]
      have hlb2 : u2.heap[gb]? = some (.cells #[ptr (M.cb c)] 137 (0, 0)) := M.rof h2 _ _ hl
      have hl2 : u2.cell? ⟨gb, 0, none⟩ = some (.pointer (some ⟨M.cb c, 0, none⟩)) := (blk_cell hlb2 0).trans rfl
      clear hlb2 hv' d1 hv
      refine Wn.skip (Wn.seq (Wn.open ?_))
      refine Wn.span1 0 8 9 (by simp [base]) (by decide) (by decide) (by rw [hfz2]; kernel_rfl) ?_
      simp only [List.take, List.drop]
      go_wp2_with fail
      refine ⟨rfl, ?_⟩
      refine Wn.callC 8 1 0 rfl (by simp [base]) rfl rfl rfl (by kernel_rfl) ?_
      refine cas40 (wrap64_in64 _) h2 hc ?_
      intro x F3 u3 C3 h3 hF3 hk3 hin3
      rw [Frame.finish_at]
      have hfz3 := (M.plain h3).1
      clear hl2
      refine Wn.range_end (Wn.cond rfl ?_)
      by_cases hx : x = v
      · subst hx
        simp only [if_true, decide_true] at h3 ⊢
        refine Wn.seq (Wn.reg (by simp [base]) (by rw [hfz3]; kernel_rfl) ?_)
        go_wp2_with fail
        refine ⟨rfl, ?_⟩
        refine Wn.ret ?_
        refine Wn.back rfl rfl Try.func70 (results_tmp rfl _ _ _) ?_
        exact hn true F3 u3 C3 h3 (fun b hb => hF3 b (hF2 b (hF1 b hb))) ((hk1.trans' hF1 hk2).trans' (fun b hb => hF2 b (hF1 b hb)) hk3)
      · simp only [if_neg hx] at h3
        rw [decide_eq_false hx]
        simp only [Bool.false_eq_true, if_false]
        refine Wn.skip (Wn.inBlock ?_)
        exact ih _ _ _ ⟨F3, h3, fun b hb => hF3 b (hF2 b (hF1 b hb)), (hk1.trans' hF1 hk2).trans' (fun b hb => hF2 b (hF1 b hb)) hk3, _, _, _, _, _, _, _, _, _, _, _, _, _, _, _, _, _, _, _, _, _, rfl⟩
  · rintro a u1 C1 ⟨F1, h1, _⟩
    exact M.nobad h1

/-- close -/
theorem close90 {k : Bool → Proc} {f : Nat} (h : M.At (.go (casP c gShut (fun v => wrap64 (v + 1)) k f)) F u C) (hc : c < M.cn) (hl : M.ro gb = some (.cells #[ptr (M.cb c)] 137 (0, 0)))
    (hn : ∀ b F' u' C', M.At (.go (k b)) F' u' C' → (∀ b, F b → F' b) → Keep F u u' → Wn C' (fr.finish (.bool b)) cs u') : Wn C (Frame.enter Try.prog 90 #[ptr gb, ptr M.T] .normal) (fr :: cs) u := by
  have hfz := (M.plain h).1
  refine Wn.body Try.func90 rfl ?_
  simp only [Try.ntmps90, List.size_toArray, List.length_cons, List.length_nil, Nat.reduceAdd, Nat.reduceSub, Array.replicate_succ, Array.replicate_zero, List.push_toArray, List.append_toArray, List.nil_append, List.cons_append]
  refine Wn.seq (Wn.reg (by simp [base]) (by rw [hfz]; kernel_rfl) ?_)
  go_wp2_with fail
  refine ⟨rfl, ?_⟩
  refine Wn.block ?_
  refine Wn.loop_ind (f := f) (fun f a u1 C1 => ∃ F1, M.At (.go (casP c gShut (fun v => wrap64 (v + 1)) k f)) F1 u1 C1 ∧ (∀ b, F b → F1 b) ∧ Keep F u u1 ∧ ∃ x2 x3 x4 x5 x6 x7 x8 x9 x10 x11 x12 x13 x14 x15 x16 x17 x18 x19 x20 x21 x22 x23, a = { tmps := #[ptr gb, ptr M.T, x2, x3, x4, x5, x6, x7, x8, x9, x10, x11, x12, x13, x14, x15, x16, x17, x18, x19, x20, x21, x22, x23], defers := [] }) ?_ ?_ ⟨F, h, fun _ h => h, Keep.refl _ _, _, _, _, _, _, _, _, _, _, _, _, _, _, _, _, _, _, _, _, _, _, _, rfl⟩
  · rintro f ih a u1 C1 ⟨F1, h1, hF1, hk1, x2, x3, x4, x5, x6, x7, x8, x9, x10, x11, x12, x13, x14, x15, x16, x17, x18, x19, x20, x21, x22, x23, rfl⟩
    simp only [casP] at h1
    have hfz1 := (M.plain h1).1
    have hlb : u1.heap[gb]? = some (.cells #[ptr (M.cb c)] 137 (0, 0)) := M.rof h1 _ _ hl
    have hl0 : u1.cell? ⟨gb, 0, none⟩ = some (.pointer (some ⟨M.cb c, 0, none⟩)) := (blk_cell hlb 0).trans rfl
    clear hlb
    refine Wn.block (Wn.seq (Wn.open ?_))
    refine Wn.span1 0 5 7 (by simp [base]) (by decide) (by decide) (by rw [hfz1]; kernel_rfl) ?_
    simp only [List.take, List.drop]
    go_wp2_with fail
    refine ⟨rfl, ?_⟩
    refine Wn.callC 5 2 1 rfl (by simp [base]) rfl rfl rfl (by kernel_rfl) ?_
    refine load43 h1 hc ?_
    intro v F2 u2 C2 h2 hF2 hk2 hin
    rw [Frame.finish_at]
    have hfz2 := (M.plain h2).1
    clear hl0
    refine Wn.span1 6 1 1 (by simp [base]) (by decide) (by decide) (by rw [hfz2]; kernel_rfl) ?_
    simp only [List.take, List.drop]
    go_wp2_with fail
    refine ⟨rfl, ?_⟩
    refine Wn.range_end ?_
    by_cases hv : gShut v = true
    · rw [if_pos hv] at h2
      have hv' : (bits BinOp.and IntKind.i64 v 1 == 1) = true := hv
      have d1 : decide (bits BinOp.and IntKind.i64 v 1 = 1) = true := decide_eq_true (beq_iff_eq.1 hv')
      refine Wn.seq (Wn.seq (Wn.reg (by simp [base]) (by rw [hfz2]; kernel_rfl) ?_))
      go_wp2_with fail
      refine ⟨rfl, ?_⟩
      refine Wn.cond rfl ?_
      simp only [if_true]
      clear hv' d1 hv
      refine Wn.seq (Wn.reg (by simp [base]) (by rw [hfz2]; kernel_rfl) ?_)
      go_wp2_with fail
      refine ⟨rfl, ?_⟩
      refine Wn.ret ?_
      refine Wn.back rfl rfl Try.func90 (results_tmp rfl _ _ _) ?_
      exact hn false F2 u2 C2 h2 (fun b hb => hF2 b (hF1 b hb)) (hk1.trans' hF1 hk2)
    · rw [if_neg hv] at h2
      have hv' : (bits BinOp.and IntKind.i64 v 1 == 1) = false := Bool.eq_false_iff.2 hv
      have d1 : decide (bits BinOp.and IntKind.i64 v 1 = 1) = false := decide_eq_false (beq_eq_false_iff_ne.1 hv')
      refine Wn.seq (Wn.seq (Wn.reg (by simp [base]) (by rw [hfz2]; kernel_rfl) ?_))
      go_wp2_with fail
      refine ⟨rfl, ?_⟩
      refine Wn.cond rfl ?_
      simp only [Bool.false_eq_true, if_false]
      have hlb2 : u2.heap[gb]? = some (.cells #[ptr (M.cb c)] 137 (0, 0)) := M.rof h2 _ _ hl
      have hl2 : u2.cell? ⟨gb, 0, none⟩ = some (.pointer (some ⟨M.cb c, 0, none⟩)) := (blk_cell hlb2 0).trans rfl
      clear hlb2 hv' d1 hv
      refine Wn.skip (Wn.seq (Wn.open ?_))
      refine Wn.span1 0 8 9 (by simp [base]) (by decide) (by decide) (by rw [hfz2]; kernel_rfl) ?_
      simp only [List.take, List.drop]
      go_wp2_with fail
      refine ⟨rfl, ?_⟩
      refine Wn.callC 8 1 0 rfl (by simp [base]) rfl rfl rfl (by kernel_rfl) ?_
      refine cas40 (wrap64_in64 _) h2 hc ?_
      intro x F3 u3 C3 h3 hF3 hk3 hin3
      rw [Frame.finish_at]
      have hfz3 := (M.plain h3).1
      clear hl2
      refine Wn.range_end (Wn.cond rfl ?_)
      by_cases hx : x = v
      · subst hx
        simp only [if_true, decide_true] at h3 ⊢
        refine Wn.seq (Wn.reg (by simp [base]) (by rw [hfz3]; kernel_rfl) ?_)
        go_wp2_with fail
        refine ⟨rfl, ?_⟩
        refine Wn.ret ?_
        refine Wn.back rfl rfl Try.func90 (results_tmp rfl _ _ _) ?_
        exact hn true F3 u3 C3 h3 (fun b hb => hF3 b (hF2 b (hF1 b hb))) ((hk1.trans' hF1 hk2).trans' (fun b hb => hF2 b (hF1 b hb)) hk3)
      · simp only [if_neg hx] at h3
        rw [decide_eq_false hx]
        simp only [Bool.false_eq_true, if_false]
        refine Wn.skip (Wn.inBlock ?_)
        exact ih _ _ _ ⟨F3, h3, fun b hb => hF3 b (hF2 b (hF1 b hb)), (hk1.trans' hF1 hk2).trans' (fun b hb => hF2 b (hF1 b hb)) hk3, _, _, _, _, _, _, _, _, _, _, _, _, _, _, _, _, _, _, _, _, _, _, rfl⟩
  · rintro a u1 C1 ⟨F1, h1, _⟩
    exact M.nobad h1

/-- Shut. -/
theorem shut71 {k : Bool → Bool → Proc} {f0 f : Nat} (h : M.At (.go (casP c gShut (fun v => wrap64 (v + 1)) (fun b => untilP c gEnd (k b) f) f0)) F u C) (hc : c < M.cn) (hl : M.ro gb = some (.cells #[ptr (M.cb c)] 137 (0, 0)))
    (hn : ∀ b e F' u' C', M.At (.go (k b e)) F' u' C' → (∀ b, F b → F' b) → Keep F u u' → Wn C' (fr.finish (.tuple #[.bool (b && e), num (if e then 0 else 4)])) cs u') : Wn C (Frame.enter Try.prog 71 #[ptr gb, ptr M.T] .normal) (fr :: cs) u := by
  have hfz := (M.plain h).1
  refine Wn.body Try.func71 rfl ?_
  simp only [Try.ntmps71, List.size_toArray, List.length_cons, List.length_nil, Nat.reduceAdd, Nat.reduceSub, Array.replicate_succ, Array.replicate_zero, List.push_toArray, List.append_toArray, List.nil_append, List.cons_append]
  refine Wn.seq (Wn.reg (by simp [base]) (by rw [hfz]; kernel_rfl) ?_)
  go_wp2_with fail
  refine ⟨rfl, ?_⟩
  refine Wn.seq (Wn.open ?_)
  refine Wn.span1 0 2 4 (by simp [base]) (by decide) (by decide) (by rw [hfz]; kernel_rfl) ?_
  simp only [List.take, List.drop]
  go_wp2_with fail
  refine ⟨rfl, ?_⟩
  refine Wn.callC 2 2 1 rfl (by simp [base]) rfl rfl rfl (by kernel_rfl) ?_
  refine close90 h hc hl ?_
  intro fst F0 u0 C0 h0 hF0 hk0
  rw [Frame.finish_at]
  have hfz0 := (M.plain h0).1
  refine Wn.span1 3 1 1 (by simp [base]) (by decide) (by decide) (by rw [hfz0]; kernel_rfl) ?_
  simp only [List.take, List.drop]
  go_wp2_with fail
  refine ⟨rfl, ?_⟩
  refine Wn.range_end (n := 0) ?_
  refine Wn.seq (Wn.block ?_)
  have hn : ∀ e F' u' C', M.At (.go (k fst e)) F' u' C' → (∀ b, F0 b → F' b) → Keep F0 u0 u' → Wn C' (fr.finish (.tuple #[.bool (fst && e), num (if e then 0 else 4)])) cs u' := fun e F' u' C' h' hF' hk' => hn fst e F' u' C' h' (fun b hb => hF' b (hF0 b hb)) (hk0.trans' hF0 hk')
  generalize k fst = k at h0 hn
  clear h hfz hF0 hk0
  refine Wn.loop_ind (f := f) (fun f a u1 C1 => ∃ F1, M.At (.go (untilP c gEnd k f)) F1 u1 C1 ∧ (∀ b, F0 b → F1 b) ∧ Keep F0 u0 u1 ∧ ∃ x2 x3 x4 x5 x7 x8 x9 x10 x11 x12 x13 x14 x15 x16 x17 x18 x19 x20 x21 x22 x23 x24 x25, a = { tmps := #[ptr gb, ptr M.T, x2, x3, x4, x5, .bool fst, x7, x8, x9, x10, x11, x12, x13, x14, x15, x16, x17, x18, x19, x20, x21, x22, x23, x24, x25], defers := [] }) ?_ ?_ ⟨F0, h0, fun _ h => h, Keep.refl _ _, _, _, _, _, _, _, _, _, _, _, _, _, _, _, _, _, _, _, _, _, _, _, _, rfl⟩
  · rintro f ih a u1 C1 ⟨F1, h1, hF1, hk1, x2, x3, x4, x5, x7, x8, x9, x10, x11, x12, x13, x14, x15, x16, x17, x18, x19, x20, x21, x22, x23, x24, x25, rfl⟩
    simp only [untilP] at h1
    have hfz1 := (M.plain h1).1
    have hlb : u1.heap[gb]? = some (.cells #[ptr (M.cb c)] 137 (0, 0)) := M.rof h1 _ _ hl
    have hl0 : u1.cell? ⟨gb, 0, none⟩ = some (.pointer (some ⟨M.cb c, 0, none⟩)) := (blk_cell hlb 0).trans rfl
    clear hlb
    refine Wn.seq (Wn.seq (Wn.open ?_))
    refine Wn.span1 0 5 7 (by simp [base]) (by decide) (by decide) (by rw [hfz1]; kernel_rfl) ?_
    simp only [List.take, List.drop]
    go_wp2_with fail
    refine ⟨rfl, ?_⟩
    refine Wn.callC 5 2 1 rfl (by simp [base]) rfl rfl rfl (by kernel_rfl) ?_
    refine load43 h1 hc ?_
    intro v F2 u2 C2 h2 hF2 hk2 hin
    rw [Frame.finish_at]
    have hfz2 := (M.plain h2).1
    clear hl0
    by_cases hv : v = 1
    · subst hv
      rw [if_pos (show gEnd 1 = true from rfl)] at h2
      refine Wn.span1 6 1 1 (by simp [base]) (by decide) (by decide) (by rw [hfz2]; kernel_rfl) ?_
      simp only [List.take, List.drop]
      go_wp2_with fail
      refine ⟨rfl, ?_⟩
      refine Wn.range_end (Wn.cond rfl ?_)
      simp only [Bool.false_eq_true, if_false]
      refine Wn.exit rfl ?_
      refine Wn.seq (Wn.reg (by simp [base]) (by rw [hfz2]; kernel_rfl) ?_)
      go_wp2_with fail
      refine ⟨rfl, ?_⟩
      refine Wn.ret ?_
      refine Wn.back rfl rfl Try.func71 (results_list (rs := [.tmp 4, .tmp 5]) rfl (by simp) (.tmp (.tmp .nil))) ?_
      have := hn true F2 u2 C2 h2 (fun b hb => hF2 b (hF1 b hb)) (hk1.trans' hF1 hk2)
      rw [Bool.and_true] at this
      exact this
    · have hv' : gEnd v ≠ true := fun e => hv (beq_iff_eq.1 e)
      rw [if_neg hv'] at h2
      have d1 : decide (v = 1) = false := decide_eq_false hv
      have d2 : (v == 1) = false := beq_eq_false_iff_ne.mpr hv
      have d3 : (v != 1) = true := bne_iff_ne.mpr hv
      refine Wn.span1 6 1 1 (by simp [base]) (by decide) (by decide) (by rw [hfz2]; kernel_rfl) ?_
      simp only [List.take, List.drop]
      go_wp2_with fail
      refine ⟨rfl, ?_⟩
      refine Wn.range_end (Wn.cond rfl ?_)
      simp only [if_true]
      clear d1 d2 d3 hv'
      have hlb2 : u2.heap[gb]? = some (.cells #[ptr (M.cb c)] 137 (0, 0)) := M.rof h2 _ _ hl
      have hl2 : u2.cell? ⟨gb, 0, none⟩ = some (.pointer (some ⟨M.cb c, 0, none⟩)) := (blk_cell hlb2 0).trans rfl
      obtain ⟨v2, hb2, _⟩ := M.cell h2 hc
      clear hlb2
      refine Wn.skip (Wn.block ?_)
      refine Wn.seq (Wn.open ?_)
      refine Wn.span1 0 5 8 (by simp [base]) (by decide) (by decide) (by rw [hfz2]; kernel_rfl) ?_
      simp only [List.take, List.drop]
      go_wp2_with fail
      refine ⟨rfl, ?_⟩
      refine Wn.callC 5 3 2 rfl (by simp [base]) rfl rfl rfl (by kernel_rfl) ?_
      refine id44 hfz2 hb2 ?_
      rw [Frame.finish_at]
      clear hb2
      refine Wn.callC 6 2 1 rfl (by simp [base]) rfl rfl rfl (by kernel_rfl) ?_
      refine M.await h2 ?_
      intro e F3 u3 C3 h3 hF3 hk3
      rw [Frame.finish_at]
      have hfz3 := (M.plain h3).1
      clear hl2
      refine Wn.span1 7 1 1 (by simp [base]) (by decide) (by decide) (by rw [hfz3]; kernel_rfl) ?_
      simp only [List.take, List.drop]
      go_wp2_with fail
      refine ⟨rfl, ?_⟩
      refine Wn.range_end (Wn.cond rfl ?_)
      cases e with
      | true =>
        simp only [if_true, Bool.not_true, Bool.false_eq_true, if_false] at h3 ⊢
        refine Wn.skip (Wn.inBlock ?_)
        exact ih _ _ _ ⟨F3, h3, fun b hb => hF3 b (hF2 b (hF1 b hb)), (hk1.trans' hF1 hk2).trans' (fun b hb => hF2 b (hF1 b hb)) hk3, _, _, _, _, _, _, _, _, _, _, _, _, _, _, _, _, _, _, _, _, _, _, _, rfl⟩
      | false =>
        simp only [Bool.false_eq_true, if_false, Bool.not_false, if_true] at h3 ⊢
        refine Wn.seq (Wn.reg (by simp [base]) (by rw [hfz3]; kernel_rfl) ?_)
        go_wp2_with fail
        refine ⟨rfl, ?_⟩
        refine Wn.ret ?_
        refine Wn.back rfl rfl Try.func71 (results_list (rs := [.tmp 4, .tmp 5]) rfl (by simp) (.tmp (.tmp .nil))) ?_
        have := hn false F3 u3 C3 h3 (fun b hb => hF3 b (hF2 b (hF1 b hb))) ((hk1.trans' hF1 hk2).trans' (fun b hb => hF2 b (hF1 b hb)) hk3)
        rw [Bool.and_false] at this
        exact this
  · rintro a u1 C1 ⟨F1, h1, _⟩
    exact M.nobad h1
end
end Go.Proofs.Ytoabkcalphpkhaa

/- gate.Play's call of a script. (Printed by gen_gatedo.py.) -/
namespace Go.Proofs.Ytoabkcalphpkhaa
open Go Go.Conc Go.RowKit
open Go.Proofs.YtoabkcalphpkhaaW.PrintWords
set_option linter.unusedVariables false
set_option linter.unusedSimpArgs false
set_option linter.unusedSectionVars false
set_option maxRecDepth 100000

/-- A call of a method value. -/
theorem Wn.callB {P : Program} {C : Ctx P} {cs : List Frame} {u : World} {b : Frame} {a : Act} {k : List Item} {ops : Array Oper} {o : Oper} (n m m' : Nat) (hm : m = m' + 1) (hb : b.kind ≠ .early) (ho : ops[n]? = some o) (hw : Region.wanted o (yielded ops a.tmps) = true) {x : Operand} {f : FuncId} {xs : List Operand} {ats : Array TypeId} {bound : Array Value}
    (hop : o.op = .call { callee := .value x, args := xs.toArray, argTypes := ats }) (hx : a.eval x = .func (.func f) bound #[]) (hbd : bodied P f = true)
    (h : Wn C (Frame.enter P f (bound ++ (xs.map a.eval).toArray) .normal) (b.at a (.inRegion ops (n :: List.range' (n + 1) m') :: k) :: cs) u) : Wn C (b.at a (.inRegion ops (List.range' n m) :: k)) cs u := by
  subst hm
  rw [List.range'_succ]
  refine Wn.call hb ho hw (fun w => ?_) h
  have e : execOp a.eval o = callFunc f (bound ++ (xs.map a.eval).toArray) := by
    unfold execOp
    simp [hop, resolve, Deferred.ofValue, invoke, hx]
  rw [e]
  exact runT_callFunc hbd _ _

/-- A call of a script: so many rounds at most. -/
def doGate (f : Nat) (c : Cal) (k : Ans → Proc) : Proc :=
  if c.op = 1 then casP 0 gShut (fun v => wrap64 (v + 2)) (fun b => k ⟨if b then 0 else 60, 0⟩) f
  else if c.op = 2 then casP 0 gLow (fun v => wrap64 (v - 2)) (fun b => k ⟨if b then 0 else 61, 0⟩) f
  else if c.op = 3 then casP 0 gShut (fun v => wrap64 (v + 1)) (fun b => untilP 0 gEnd (fun e => k ⟨if e then 0 else 4, if b && e then 1 else 0⟩) f) f
  else k ⟨1, 0⟩
def howF (op : Int) : Nat := if op = 1 then 91 else if op = 2 then 92 else if op = 3 then 93 else 94

section
variable {M : Mode} {F : Nat → Prop} {u : World} {C : Ctx Try.prog} {fr : Frame} {cs : List Frame} {c gb bx : Nat}
/-- enter -/
theorem enter91 {k : Ans → Proc} {f : Nat} (h : M.At (.go (casP c gShut (fun v => wrap64 (v + 2)) (fun b => k ⟨if b then 0 else 60, 0⟩) f)) F u C) (hc : c < M.cn) (hl : M.ro gb = some (.cells #[ptr (M.cb c)] 137 (0, 0)))
    (hn : ∀ a F' u' C', M.At (.go (k a)) F' u' C' → (∀ b, F b → F' b) → Keep F u u' → Wn C' (fr.finish (ansV a)) cs u') : Wn C (Frame.enter Try.prog 91 #[ptr gb, ptr M.T] .normal) (fr :: cs) u := by
  have hfz := (M.plain h).1
  refine Wn.body Try.func91 rfl ?_
  simp only [Try.ntmps91, List.size_toArray, List.length_cons, List.length_nil, Nat.reduceAdd, Nat.reduceSub, Array.replicate_succ, Array.replicate_zero, List.push_toArray, List.append_toArray, List.nil_append, List.cons_append]
  refine Wn.seq (Wn.reg (by simp [base]) (by rw [hfz]; kernel_rfl) ?_)
  go_wp2_with fail
  refine ⟨rfl, ?_⟩
  have hlt := M.lt h
  obtain ⟨F1, h1, hF1, hk1, hFr, hbr⟩ := M.one h (.cells #[num 0, num 0] 34 (0, 0))
  have hnr : ¬ F u.heap.size := fun e => by have := hlt _ e; omega
  generalize u.alloc (.cells #[num 0, num 0] 34 (0, 0)) = u1 at h1 hk1 hbr ⊢
  generalize u.heap.size = r at hFr hbr hnr ⊢
  have hfz := (M.plain h1).1
  refine Wn.seq (Wn.open ?_)
  refine Wn.span1 0 2 5 (by simp [base]) (by decide) (by decide) (by rw [hfz]; kernel_rfl) ?_
  simp only [List.take, List.drop]
  go_wp2_with fail
  refine ⟨rfl, ?_⟩
  refine Wn.callC 2 3 2 rfl (by simp [base]) rfl rfl rfl (by kernel_rfl) ?_
  refine enter69 h1 hc hl ?_
  intro b F2 u2 C2 h2 hF2 hk2
  rw [Frame.finish_at]
  have hfz2 := (M.plain h2).1
  have hbr' : u2.heap[r]? = some (.cells #[num 0, num 0] 34 (0, 0)) := (hk2 r hFr).trans hbr
  have r0 : u2.cell? ⟨r, 0, none⟩ = some (.int .i64 0) := (blk_cell hbr' 0).trans rfl
  have r1 : u2.cell? ⟨r, 1, none⟩ = some (.int .i64 0) := (blk_cell hbr' 1).trans rfl
  have z0 : u2.frozen? ⟨r, 0, none⟩ = false := blk_thawed hbr' 0
  have z1 : u2.frozen? ⟨r, 1, none⟩ = false := blk_thawed hbr' 1
  cases b with
  | true =>
    simp only [Bool.false_eq_true, if_false, if_true] at h2 ⊢
    refine Wn.span1 3 2 2 (by simp [base]) (by decide) (by decide) (by rw [hfz2]; kernel_rfl) ?_
    simp only [List.take, List.drop]
    go_wp2_with fail
    refine ⟨rfl, ?_⟩
    refine Wn.range_end ?_
    obtain ⟨h9, hb9, hk9⟩ := M.answer h2 (hF2 _ hFr) hbr' 0 0
    refine Wn.ret (Wn.back rfl rfl Try.func91 (res34 (a := ⟨0, 0⟩) rfl rfl hb9) ?_)
    exact hn _ _ _ C2 h9 (fun b hb => hF2 b (hF1 b hb)) ((hk1.trans' hF1 hk2).trans (hk9 F hnr))
  | false =>
    simp only [Bool.false_eq_true, if_false, if_true] at h2 ⊢
    refine Wn.span1 3 2 2 (by simp [base]) (by decide) (by decide) (by rw [hfz2]; kernel_rfl) ?_
    simp only [List.take, List.drop]
    go_wp2_with fail
    refine ⟨rfl, ?_⟩
    refine Wn.range_end ?_
    obtain ⟨h9, hb9, hk9⟩ := M.answer h2 (hF2 _ hFr) hbr' 60 0
    refine Wn.ret (Wn.back rfl rfl Try.func91 (res34 (a := ⟨60, 0⟩) rfl rfl hb9) ?_)
    exact hn _ _ _ C2 h9 (fun b hb => hF2 b (hF1 b hb)) ((hk1.trans' hF1 hk2).trans (hk9 F hnr))
/-- leave -/
theorem leave92 {k : Ans → Proc} {f : Nat} (h : M.At (.go (casP c gLow (fun v => wrap64 (v - 2)) (fun b => k ⟨if b then 0 else 61, 0⟩) f)) F u C) (hc : c < M.cn) (hl : M.ro gb = some (.cells #[ptr (M.cb c)] 137 (0, 0)))
    (hn : ∀ a F' u' C', M.At (.go (k a)) F' u' C' → (∀ b, F b → F' b) → Keep F u u' → Wn C' (fr.finish (ansV a)) cs u') : Wn C (Frame.enter Try.prog 92 #[ptr gb, ptr M.T] .normal) (fr :: cs) u := by
  have hfz := (M.plain h).1
  refine Wn.body Try.func92 rfl ?_
  simp only [Try.ntmps92, List.size_toArray, List.length_cons, List.length_nil, Nat.reduceAdd, Nat.reduceSub, Array.replicate_succ, Array.replicate_zero, List.push_toArray, List.append_toArray, List.nil_append, List.cons_append]
  refine Wn.seq (Wn.reg (by simp [base]) (by rw [hfz]; kernel_rfl) ?_)
  go_wp2_with fail
  refine ⟨rfl, ?_⟩
  have hlt := M.lt h
  obtain ⟨F1, h1, hF1, hk1, hFr, hbr⟩ := M.one h (.cells #[num 0, num 0] 34 (0, 0))
  have hnr : ¬ F u.heap.size := fun e => by have := hlt _ e; omega
  generalize u.alloc (.cells #[num 0, num 0] 34 (0, 0)) = u1 at h1 hk1 hbr ⊢
  generalize u.heap.size = r at hFr hbr hnr ⊢
  have hfz := (M.plain h1).1
  refine Wn.seq (Wn.open ?_)
  refine Wn.span1 0 2 5 (by simp [base]) (by decide) (by decide) (by rw [hfz]; kernel_rfl) ?_
  simp only [List.take, List.drop]
  go_wp2_with fail
  refine ⟨rfl, ?_⟩
  refine Wn.callC 2 3 2 rfl (by simp [base]) rfl rfl rfl (by kernel_rfl) ?_
  refine leave70 h1 hc hl ?_
  intro b F2 u2 C2 h2 hF2 hk2
  rw [Frame.finish_at]
  have hfz2 := (M.plain h2).1
  have hbr' : u2.heap[r]? = some (.cells #[num 0, num 0] 34 (0, 0)) := (hk2 r hFr).trans hbr
  have r0 : u2.cell? ⟨r, 0, none⟩ = some (.int .i64 0) := (blk_cell hbr' 0).trans rfl
  have r1 : u2.cell? ⟨r, 1, none⟩ = some (.int .i64 0) := (blk_cell hbr' 1).trans rfl
  have z0 : u2.frozen? ⟨r, 0, none⟩ = false := blk_thawed hbr' 0
  have z1 : u2.frozen? ⟨r, 1, none⟩ = false := blk_thawed hbr' 1
  cases b with
  | true =>
    simp only [Bool.false_eq_true, if_false, if_true] at h2 ⊢
    refine Wn.span1 3 2 2 (by simp [base]) (by decide) (by decide) (by rw [hfz2]; kernel_rfl) ?_
    simp only [List.take, List.drop]
    go_wp2_with fail
    refine ⟨rfl, ?_⟩
    refine Wn.range_end ?_
    obtain ⟨h9, hb9, hk9⟩ := M.answer h2 (hF2 _ hFr) hbr' 0 0
    refine Wn.ret (Wn.back rfl rfl Try.func92 (res34 (a := ⟨0, 0⟩) rfl rfl hb9) ?_)
    exact hn _ _ _ C2 h9 (fun b hb => hF2 b (hF1 b hb)) ((hk1.trans' hF1 hk2).trans (hk9 F hnr))
  | false =>
    simp only [Bool.false_eq_true, if_false, if_true] at h2 ⊢
    refine Wn.span1 3 2 2 (by simp [base]) (by decide) (by decide) (by rw [hfz2]; kernel_rfl) ?_
    simp only [List.take, List.drop]
    go_wp2_with fail
    refine ⟨rfl, ?_⟩
    refine Wn.range_end ?_
    obtain ⟨h9, hb9, hk9⟩ := M.answer h2 (hF2 _ hFr) hbr' 61 0
    refine Wn.ret (Wn.back rfl rfl Try.func92 (res34 (a := ⟨61, 0⟩) rfl rfl hb9) ?_)
    exact hn _ _ _ C2 h9 (fun b hb => hF2 b (hF1 b hb)) ((hk1.trans' hF1 hk2).trans (hk9 F hnr))
/-- end -/
theorem end93 {k : Ans → Proc} {f : Nat} (h : M.At (.go (casP c gShut (fun v => wrap64 (v + 1)) (fun b => untilP c gEnd (fun e => k ⟨if e then 0 else 4, if b && e then 1 else 0⟩) f) f)) F u C) (hc : c < M.cn) (hl : M.ro gb = some (.cells #[ptr (M.cb c)] 137 (0, 0)))
    (hn : ∀ a F' u' C', M.At (.go (k a)) F' u' C' → (∀ b, F b → F' b) → Keep F u u' → Wn C' (fr.finish (ansV a)) cs u') : Wn C (Frame.enter Try.prog 93 #[ptr gb, ptr M.T] .normal) (fr :: cs) u := by
  have hfz := (M.plain h).1
  refine Wn.body Try.func93 rfl ?_
  simp only [Try.ntmps93, List.size_toArray, List.length_cons, List.length_nil, Nat.reduceAdd, Nat.reduceSub, Array.replicate_succ, Array.replicate_zero, List.push_toArray, List.append_toArray, List.nil_append, List.cons_append]
  refine Wn.seq (Wn.reg (by simp [base]) (by rw [hfz]; kernel_rfl) ?_)
  go_wp2_with fail
  refine ⟨rfl, ?_⟩
  have hlt := M.lt h
  obtain ⟨F1, h1, hF1, hk1, hFr, hbr⟩ := M.one h (.cells #[num 0, num 0] 34 (0, 0))
  have hnr : ¬ F u.heap.size := fun e => by have := hlt _ e; omega
  generalize u.alloc (.cells #[num 0, num 0] 34 (0, 0)) = u1 at h1 hk1 hbr ⊢
  generalize u.heap.size = r at hFr hbr hnr ⊢
  have hfz := (M.plain h1).1
  refine Wn.seq (Wn.open ?_)
  refine Wn.span1 0 2 8 (by simp [base]) (by decide) (by decide) (by rw [hfz]; kernel_rfl) ?_
  simp only [List.take, List.drop]
  go_wp2_with fail
  refine ⟨rfl, ?_⟩
  refine Wn.callC 2 6 5 rfl (by simp [base]) rfl rfl rfl (by kernel_rfl) ?_
  refine shut71 (k := fun b e => k ⟨if e then 0 else 4, if b && e then 1 else 0⟩) h1 hc hl ?_
  intro b e F2 u2 C2 h2 hF2 hk2
  rw [Frame.finish_at]
  have hfz2 := (M.plain h2).1
  have hbr' : u2.heap[r]? = some (.cells #[num 0, num 0] 34 (0, 0)) := (hk2 r hFr).trans hbr
  have r0 : u2.cell? ⟨r, 0, none⟩ = some (.int .i64 0) := (blk_cell hbr' 0).trans rfl
  have r1 : u2.cell? ⟨r, 1, none⟩ = some (.int .i64 0) := (blk_cell hbr' 1).trans rfl
  have z0 : u2.frozen? ⟨r, 0, none⟩ = false := blk_thawed hbr' 0
  have z1 : u2.frozen? ⟨r, 1, none⟩ = false := blk_thawed hbr' 1
  cases b <;> cases e
  · simp only [Bool.and_true, Bool.and_false, Bool.false_eq_true, if_false, if_true] at h2 ⊢
    refine Wn.span1 3 5 5 (by simp [base]) (by decide) (by decide) (by rw [hfz2]; kernel_rfl) ?_
    simp only [List.take, List.drop]
    go_wp2_with fail
    refine ⟨rfl, ?_⟩
    refine Wn.range_end (n := 0) ?_
    refine Wn.seq (Wn.seq (Wn.reg (by simp [base]) (by rw [hfz2]; kernel_rfl) ?_))
    go_wp2_with fail
    refine ⟨rfl, ?_⟩
    refine Wn.cond rfl ?_
    simp only [Bool.false_eq_true, if_false, if_true]
    refine Wn.skip (Wn.seq (Wn.reg (by simp [base]) (by rw [hfz2]; kernel_rfl) ?_))
    go_wp2_with fail
    refine ⟨rfl, ?_⟩
    obtain ⟨h9, hb9, hk9⟩ := M.answer h2 (hF2 _ hFr) hbr' 4 0
    refine Wn.ret (Wn.back rfl rfl Try.func93 (res34 (a := ⟨4, 0⟩) rfl rfl hb9) ?_)
    exact hn _ _ _ C2 h9 (fun b hb => hF2 b (hF1 b hb)) ((hk1.trans' hF1 hk2).trans (hk9 F hnr))
  · simp only [Bool.and_true, Bool.and_false, Bool.false_eq_true, if_false, if_true] at h2 ⊢
    refine Wn.span1 3 5 5 (by simp [base]) (by decide) (by decide) (by rw [hfz2]; kernel_rfl) ?_
    simp only [List.take, List.drop]
    go_wp2_with fail
    refine ⟨rfl, ?_⟩
    refine Wn.range_end (n := 0) ?_
    refine Wn.seq (Wn.seq (Wn.reg (by simp [base]) (by rw [hfz2]; kernel_rfl) ?_))
    go_wp2_with fail
    refine ⟨rfl, ?_⟩
    refine Wn.cond rfl ?_
    simp only [Bool.false_eq_true, if_false, if_true]
    refine Wn.skip (Wn.seq (Wn.reg (by simp [base]) (by rw [hfz2]; kernel_rfl) ?_))
    go_wp2_with fail
    refine ⟨rfl, ?_⟩
    obtain ⟨h9, hb9, hk9⟩ := M.answer h2 (hF2 _ hFr) hbr' 0 0
    refine Wn.ret (Wn.back rfl rfl Try.func93 (res34 (a := ⟨0, 0⟩) rfl rfl hb9) ?_)
    exact hn _ _ _ C2 h9 (fun b hb => hF2 b (hF1 b hb)) ((hk1.trans' hF1 hk2).trans (hk9 F hnr))
  · simp only [Bool.and_true, Bool.and_false, Bool.false_eq_true, if_false, if_true] at h2 ⊢
    refine Wn.span1 3 5 5 (by simp [base]) (by decide) (by decide) (by rw [hfz2]; kernel_rfl) ?_
    simp only [List.take, List.drop]
    go_wp2_with fail
    refine ⟨rfl, ?_⟩
    refine Wn.range_end (n := 0) ?_
    refine Wn.seq (Wn.seq (Wn.reg (by simp [base]) (by rw [hfz2]; kernel_rfl) ?_))
    go_wp2_with fail
    refine ⟨rfl, ?_⟩
    refine Wn.cond rfl ?_
    simp only [Bool.false_eq_true, if_false, if_true]
    refine Wn.skip (Wn.seq (Wn.reg (by simp [base]) (by rw [hfz2]; kernel_rfl) ?_))
    go_wp2_with fail
    refine ⟨rfl, ?_⟩
    obtain ⟨h9, hb9, hk9⟩ := M.answer h2 (hF2 _ hFr) hbr' 4 0
    refine Wn.ret (Wn.back rfl rfl Try.func93 (res34 (a := ⟨4, 0⟩) rfl rfl hb9) ?_)
    exact hn _ _ _ C2 h9 (fun b hb => hF2 b (hF1 b hb)) ((hk1.trans' hF1 hk2).trans (hk9 F hnr))
  · simp only [Bool.and_true, Bool.and_false, Bool.false_eq_true, if_false, if_true] at h2 ⊢
    refine Wn.span1 3 5 5 (by simp [base]) (by decide) (by decide) (by rw [hfz2]; kernel_rfl) ?_
    simp only [List.take, List.drop]
    go_wp2_with fail
    refine ⟨rfl, ?_⟩
    refine Wn.range_end (n := 0) ?_
    refine Wn.seq (Wn.seq (Wn.reg (by simp [base]) (by rw [hfz2]; kernel_rfl) ?_))
    go_wp2_with fail
    refine ⟨rfl, ?_⟩
    refine Wn.cond rfl ?_
    simp only [Bool.false_eq_true, if_false, if_true]
    refine Wn.seq (Wn.reg (by simp [base]) (by rw [hfz2]; kernel_rfl) ?_)
    go_wp2_with fail
    refine ⟨rfl, ?_⟩
    obtain ⟨h9, hb9, hk9⟩ := M.answer h2 (hF2 _ hFr) hbr' 0 1
    refine Wn.ret (Wn.back rfl rfl Try.func93 (res34 (a := ⟨0, 1⟩) rfl rfl hb9) ?_)
    exact hn _ _ _ C2 h9 (fun b hb => hF2 b (hF1 b hb)) ((hk1.trans' hF1 hk2).trans (hk9 F hnr))
/-- none -/
theorem none94 {k : Ans → Proc} (h : M.At (.go (k ⟨1, 0⟩)) F u C) (hn : ∀ a F' u' C', M.At (.go (k a)) F' u' C' → (∀ b, F b → F' b) → Keep F u u' → Wn C' (fr.finish (ansV a)) cs u') : Wn C (Frame.enter Try.prog 94 #[ptr gb, ptr M.T] .normal) (fr :: cs) u := by
  have hfz := (M.plain h).1
  refine Wn.body Try.func94 rfl ?_
  simp only [Try.ntmps94, List.size_toArray, List.length_cons, List.length_nil, Nat.reduceAdd, Nat.reduceSub, Array.replicate_succ, Array.replicate_zero, List.push_toArray, List.append_toArray, List.nil_append, List.cons_append]
  refine Wn.seq (Wn.reg (by simp [base]) (by rw [hfz]; kernel_rfl) ?_)
  go_wp2_with fail
  refine ⟨rfl, ?_⟩
  have hlt := M.lt h
  obtain ⟨F1, h1, hF1, hk1, hFr, hbr⟩ := M.one h (.cells #[num 0, num 0] 34 (0, 0))
  have hnr : ¬ F u.heap.size := fun e => by have := hlt _ e; omega
  generalize u.alloc (.cells #[num 0, num 0] 34 (0, 0)) = u1 at h1 hk1 hbr ⊢
  generalize u.heap.size = r at hFr hbr hnr ⊢
  have hfz := (M.plain h1).1
  have hbr' := hbr
  have r0 : u1.cell? ⟨r, 0, none⟩ = some (.int .i64 0) := (blk_cell hbr' 0).trans rfl
  have r1 : u1.cell? ⟨r, 1, none⟩ = some (.int .i64 0) := (blk_cell hbr' 1).trans rfl
  have z0 : u1.frozen? ⟨r, 0, none⟩ = false := blk_thawed hbr' 0
  have z1 : u1.frozen? ⟨r, 1, none⟩ = false := blk_thawed hbr' 1
  refine Wn.seq (Wn.reg (by simp [base]) (by rw [hfz]; kernel_rfl) ?_)
  go_wp2_with fail
  refine ⟨rfl, ?_⟩
  obtain ⟨h9, hb9, hk9⟩ := M.answer h1 hFr hbr' 1 0
  refine Wn.ret (Wn.back rfl rfl Try.func94 (res34 (a := ⟨1, 0⟩) rfl rfl hb9) ?_)
  exact hn _ _ _ C h9 hF1 (hk1.trans (hk9 F hnr))
/-- how -/
theorem how73 (hfz : C.fz = true) {op : Int} (hn : Wn C (fr.finish (.func (.func (howF op)) #[ptr gb] #[])) cs u) : Wn C (Frame.enter Try.prog 73 #[ptr gb, num op] .normal) (fr :: cs) u := by
  refine Wn.body Try.func73 rfl ?_
  simp only [Try.ntmps73, List.size_toArray, List.length_cons, List.length_nil, Nat.reduceAdd, Nat.reduceSub, Array.replicate_succ, Array.replicate_zero, List.push_toArray, List.append_toArray, List.nil_append, List.cons_append]
  refine Wn.seq (Wn.reg (by simp [base]) (by rw [hfz]; kernel_rfl) ?_)
  go_wp2_with fail
  refine ⟨rfl, ?_⟩
  refine Wn.seq (Wn.seq (Wn.reg (by simp [base]) (by rw [hfz]; kernel_rfl) ?_))
  go_wp2_with fail
  refine ⟨rfl, ?_⟩
  refine Wn.block ?_
  by_cases e1 : op = 1
  · have hF : howF op = 91 := by subst e1; rfl
    rw [hF] at hn
    have d1 : (op == 1) = true := beq_iff_eq.mpr e1
    have d2 : decide (op = 1) = true := decide_eq_true e1
    refine Wn.seq (Wn.reg (by simp [base]) (by rw [hfz]; kernel_rfl) ?_)
    go_wp2_with fail
    refine ⟨rfl, ?_⟩
    refine Wn.cond rfl ?_
    simp only [if_true]
    clear d1 d2
    refine Wn.seq (Wn.reg (by simp [base]) (by rw [hfz]; kernel_rfl) ?_)
    go_wp2_with fail
    refine ⟨rfl, ?_⟩
    refine Wn.ret ?_
    refine Wn.back rfl rfl Try.func73 (results_tmp rfl _ _ _) ?_
    exact hn
  · have d1 : (op == 1) = false := beq_eq_false_iff_ne.mpr e1
    have d2 : decide (op = 1) = false := decide_eq_false e1
    refine Wn.seq (Wn.reg (by simp [base]) (by rw [hfz]; kernel_rfl) ?_)
    go_wp2_with fail
    refine ⟨rfl, ?_⟩
    refine Wn.cond rfl ?_
    simp only [Bool.false_eq_true, if_false]
    clear d1 d2
    by_cases e2 : op = 2
    · have hF : howF op = 92 := by subst e2; rfl
      rw [hF] at hn
      have d1 : (op == 2) = true := beq_iff_eq.mpr e2
      have d2 : decide (op = 2) = true := decide_eq_true e2
      refine Wn.seq (Wn.reg (by simp [base]) (by rw [hfz]; kernel_rfl) ?_)
      go_wp2_with fail
      refine ⟨rfl, ?_⟩
      refine Wn.cond rfl ?_
      simp only [if_true]
      clear d1 d2
      refine Wn.seq (Wn.reg (by simp [base]) (by rw [hfz]; kernel_rfl) ?_)
      go_wp2_with fail
      refine ⟨rfl, ?_⟩
      refine Wn.ret ?_
      refine Wn.back rfl rfl Try.func73 (results_tmp rfl _ _ _) ?_
      exact hn
    · have d1 : (op == 2) = false := beq_eq_false_iff_ne.mpr e2
      have d2 : decide (op = 2) = false := decide_eq_false e2
      refine Wn.seq (Wn.reg (by simp [base]) (by rw [hfz]; kernel_rfl) ?_)
      go_wp2_with fail
      refine ⟨rfl, ?_⟩
      refine Wn.cond rfl ?_
      simp only [Bool.false_eq_true, if_false]
      clear d1 d2
      by_cases e3 : op = 3
      · have hF : howF op = 93 := by subst e3; rfl
        rw [hF] at hn
        have d1 : (op == 3) = true := beq_iff_eq.mpr e3
        have d2 : decide (op = 3) = true := decide_eq_true e3
        refine Wn.seq (Wn.reg (by simp [base]) (by rw [hfz]; kernel_rfl) ?_)
        go_wp2_with fail
        refine ⟨rfl, ?_⟩
        refine Wn.cond rfl ?_
        simp only [if_true]
        clear d1 d2
        refine Wn.seq (Wn.reg (by simp [base]) (by rw [hfz]; kernel_rfl) ?_)
        go_wp2_with fail
        refine ⟨rfl, ?_⟩
        refine Wn.ret ?_
        refine Wn.back rfl rfl Try.func73 (results_tmp rfl _ _ _) ?_
        exact hn
      · have d1 : (op == 3) = false := beq_eq_false_iff_ne.mpr e3
        have d2 : decide (op = 3) = false := decide_eq_false e3
        refine Wn.seq (Wn.reg (by simp [base]) (by rw [hfz]; kernel_rfl) ?_)
        go_wp2_with fail
        refine ⟨rfl, ?_⟩
        refine Wn.cond rfl ?_
        simp only [Bool.false_eq_true, if_false]
        clear d1 d2
        have hF : howF op = 94 := by unfold howF; rw [if_neg e1, if_neg e2, if_neg e3]
        rw [hF] at hn
        refine Wn.skip (Wn.inBlock ?_)
        refine Wn.seq (Wn.reg (by simp [base]) (by rw [hfz]; kernel_rfl) ?_)
        go_wp2_with fail
        refine ⟨rfl, ?_⟩
        refine Wn.ret ?_
        refine Wn.back rfl rfl Try.func73 (results_tmp rfl _ _ _) ?_
        exact hn
/-- gate.Play's call. -/
theorem do72 {c : Cal} {k : Ans → Proc} {f : Nat} (h : M.At (.go (doGate f c k)) F u C) (hc : 0 < M.cn) (hl : M.ro gb = some (.cells #[ptr (M.cb 0)] 137 (0, 0))) (hx : M.ro bx = some (.cells #[ptr gb] 111 (0, 0)))
    (hn : ∀ a F' u' C', M.At (.go (k a)) F' u' C' → (∀ b, F b → F' b) → Keep F u u' → Wn C' (fr.finish (ansV a)) cs u') : Wn C (Frame.enter Try.prog 72 #[ptr M.T, callV c, ptr bx] .normal) (fr :: cs) u := by
  have hfz := (M.plain h).1
  have hlt := M.lt h
  refine Wn.body Try.func72 rfl ?_
  simp only [Try.ntmps72, List.size_toArray, List.length_cons, List.length_nil, Nat.reduceAdd, Nat.reduceSub, Array.replicate_succ, Array.replicate_zero, List.push_toArray, List.append_toArray, List.nil_append, List.cons_append, callV]
  refine Wn.seq (Wn.reg (by simp [base]) (by rw [hfz]; kernel_rfl) ?_)
  go_wp2_with fail
  refine ⟨rfl, ?_⟩
  obtain ⟨F1, h1, hF1, hk1, hFp, hFr, hbp, hbr⟩ := M.two h (.cells #[num c.op, num c.a, num c.b, num c.c] 36 (0, 0)) (.cells #[num 0, num 0] 34 (0, 0))
  have hnr : ¬ F (u.heap.size + 1) := fun e => by have := hlt _ e; omega
  generalize hu1 : (u.alloc (.cells #[num c.op, num c.a, num c.b, num c.c] 36 (0, 0))).alloc (.cells #[num 0, num 0] 34 (0, 0)) = u1 at h1 hk1 hbp hbr ⊢
  generalize u.heap.size + 1 = r at hFr hbr hnr ⊢
  generalize u.heap.size = pb at hFp hbp ⊢
  have p0 : u1.cell? ⟨pb, 0, none⟩ = some (.int .i64 c.op) := (blk_cell hbp 0).trans rfl
  have hx1 : u1.cell? ⟨bx, 0, none⟩ = some (.pointer (some ⟨gb, 0, none⟩)) := (blk_cell (M.rof h1 _ _ hx) 0).trans rfl
  clear hu1 hfz
  have hfz := (M.plain h1).1
  refine Wn.seq (Wn.open ?_)
  refine Wn.span1 0 3 7 (by simp [base]) (by decide) (by decide) (by rw [hfz]; kernel_rfl) ?_
  simp only [List.take, List.drop]
  go_wp2_with fail
  refine ⟨rfl, ?_⟩
  refine Wn.callC 3 4 3 rfl (by simp [base]) rfl rfl rfl (by kernel_rfl) ?_
  refine how73 hfz ?_
  rw [Frame.finish_at]
  clear p0 hx1
  refine Wn.span1 4 1 3 (by simp [base]) (by decide) (by decide) (by rw [hfz]; kernel_rfl) ?_
  simp only [List.take, List.drop]
  go_wp2_with fail
  refine ⟨rfl, ?_⟩
  have key : ∀ a F2 u2 C2, M.At (.go (k a)) F2 u2 C2 → (∀ b, F1 b → F2 b) → Keep F1 u1 u2 → ∀ {fr' : Frame}, fr' = fr' → True := fun _ _ _ _ _ _ _ _ _ => trivial
  clear key
  by_cases e1 : c.op = 1
  · have hF : howF c.op = 91 := by unfold howF; rw [if_pos e1]
    have hdo : doGate f c k = casP 0 gShut (fun v => wrap64 (v + 2)) (fun b => k ⟨if b then 0 else 60, 0⟩) f := by unfold doGate; rw [if_pos e1]
    rw [hdo] at h1
    refine Wn.callB (f := 91) (bound := #[ptr gb]) 5 2 1 rfl (by simp [base]) rfl rfl rfl (by rw [hF]; rfl) (by kernel_rfl) ?_
    refine enter91 h1 hc hl ?_
    intro a F2 u2 C2 h2 hF2 hk2
    rw [Frame.finish_at]
    have hfz2 := (M.plain h2).1
    have hbr' : u2.heap[r]? = some (.cells #[num 0, num 0] 34 (0, 0)) := (hk2 r hFr).trans hbr
    have r0 : u2.cell? ⟨r, 0, none⟩ = some (.int .i64 0) := (blk_cell hbr' 0).trans rfl
    have r1 : u2.cell? ⟨r, 1, none⟩ = some (.int .i64 0) := (blk_cell hbr' 1).trans rfl
    have z0 : u2.frozen? ⟨r, 0, none⟩ = false := blk_thawed hbr' 0
    have z1 : u2.frozen? ⟨r, 1, none⟩ = false := blk_thawed hbr' 1
    simp only [ansV]
    refine Wn.span1 6 1 1 (by simp [base]) (by decide) (by decide) (by rw [hfz2]; kernel_rfl) ?_
    simp only [List.take, List.drop]
    go_wp2_with fail
    refine ⟨rfl, ?_⟩
    refine Wn.range_end ?_
    obtain ⟨h9, hb9, hk9⟩ := M.answer h2 (hF2 _ hFr) hbr' a.code a.val
    refine Wn.ret (Wn.back rfl rfl Try.func72 (res34 (a := ⟨a.code, a.val⟩) rfl rfl hb9) ?_)
    exact hn _ _ _ C2 h9 (fun b hb => hF2 b (hF1 b hb)) ((hk1.trans' hF1 hk2).trans (hk9 F hnr))
  · by_cases e2 : c.op = 2
    · have hF : howF c.op = 92 := by unfold howF; rw [if_neg e1, if_pos e2]
      have hdo : doGate f c k = casP 0 gLow (fun v => wrap64 (v - 2)) (fun b => k ⟨if b then 0 else 61, 0⟩) f := by unfold doGate; rw [if_neg e1, if_pos e2]
      rw [hdo] at h1
      refine Wn.callB (f := 92) (bound := #[ptr gb]) 5 2 1 rfl (by simp [base]) rfl rfl rfl (by rw [hF]; rfl) (by kernel_rfl) ?_
      refine leave92 h1 hc hl ?_
      intro a F2 u2 C2 h2 hF2 hk2
      rw [Frame.finish_at]
      have hfz2 := (M.plain h2).1
      have hbr' : u2.heap[r]? = some (.cells #[num 0, num 0] 34 (0, 0)) := (hk2 r hFr).trans hbr
      have r0 : u2.cell? ⟨r, 0, none⟩ = some (.int .i64 0) := (blk_cell hbr' 0).trans rfl
      have r1 : u2.cell? ⟨r, 1, none⟩ = some (.int .i64 0) := (blk_cell hbr' 1).trans rfl
      have z0 : u2.frozen? ⟨r, 0, none⟩ = false := blk_thawed hbr' 0
      have z1 : u2.frozen? ⟨r, 1, none⟩ = false := blk_thawed hbr' 1
      simp only [ansV]
      refine Wn.span1 6 1 1 (by simp [base]) (by decide) (by decide) (by rw [hfz2]; kernel_rfl) ?_
      simp only [List.take, List.drop]
      go_wp2_with fail
      refine ⟨rfl, ?_⟩
      refine Wn.range_end ?_
      obtain ⟨h9, hb9, hk9⟩ := M.answer h2 (hF2 _ hFr) hbr' a.code a.val
      refine Wn.ret (Wn.back rfl rfl Try.func72 (res34 (a := ⟨a.code, a.val⟩) rfl rfl hb9) ?_)
      exact hn _ _ _ C2 h9 (fun b hb => hF2 b (hF1 b hb)) ((hk1.trans' hF1 hk2).trans (hk9 F hnr))
    · by_cases e3 : c.op = 3
      · have hF : howF c.op = 93 := by unfold howF; rw [if_neg e1, if_neg e2, if_pos e3]
        have hdo : doGate f c k = casP 0 gShut (fun v => wrap64 (v + 1)) (fun b => untilP 0 gEnd (fun e => k ⟨if e then 0 else 4, if b && e then 1 else 0⟩) f) f := by unfold doGate; rw [if_neg e1, if_neg e2, if_pos e3]
        rw [hdo] at h1
        refine Wn.callB (f := 93) (bound := #[ptr gb]) 5 2 1 rfl (by simp [base]) rfl rfl rfl (by rw [hF]; rfl) (by kernel_rfl) ?_
        refine end93 h1 hc hl ?_
        intro a F2 u2 C2 h2 hF2 hk2
        rw [Frame.finish_at]
        have hfz2 := (M.plain h2).1
        have hbr' : u2.heap[r]? = some (.cells #[num 0, num 0] 34 (0, 0)) := (hk2 r hFr).trans hbr
        have r0 : u2.cell? ⟨r, 0, none⟩ = some (.int .i64 0) := (blk_cell hbr' 0).trans rfl
        have r1 : u2.cell? ⟨r, 1, none⟩ = some (.int .i64 0) := (blk_cell hbr' 1).trans rfl
        have z0 : u2.frozen? ⟨r, 0, none⟩ = false := blk_thawed hbr' 0
        have z1 : u2.frozen? ⟨r, 1, none⟩ = false := blk_thawed hbr' 1
        simp only [ansV]
        refine Wn.span1 6 1 1 (by simp [base]) (by decide) (by decide) (by rw [hfz2]; kernel_rfl) ?_
        simp only [List.take, List.drop]
        go_wp2_with fail
        refine ⟨rfl, ?_⟩
        refine Wn.range_end ?_
        obtain ⟨h9, hb9, hk9⟩ := M.answer h2 (hF2 _ hFr) hbr' a.code a.val
        refine Wn.ret (Wn.back rfl rfl Try.func72 (res34 (a := ⟨a.code, a.val⟩) rfl rfl hb9) ?_)
        exact hn _ _ _ C2 h9 (fun b hb => hF2 b (hF1 b hb)) ((hk1.trans' hF1 hk2).trans (hk9 F hnr))
      · have hF : howF c.op = 94 := by unfold howF; rw [if_neg e1, if_neg e2, if_neg e3]
        have hdo : doGate f c k = k ⟨1, 0⟩ := by unfold doGate; rw [if_neg e1, if_neg e2, if_neg e3]
        rw [hdo] at h1
        refine Wn.callB (f := 94) (bound := #[ptr gb]) 5 2 1 rfl (by simp [base]) rfl rfl rfl (by rw [hF]; rfl) (by kernel_rfl) ?_
        refine none94 h1 ?_
        intro a F2 u2 C2 h2 hF2 hk2
        rw [Frame.finish_at]
        have hfz2 := (M.plain h2).1
        have hbr' : u2.heap[r]? = some (.cells #[num 0, num 0] 34 (0, 0)) := (hk2 r hFr).trans hbr
        have r0 : u2.cell? ⟨r, 0, none⟩ = some (.int .i64 0) := (blk_cell hbr' 0).trans rfl
        have r1 : u2.cell? ⟨r, 1, none⟩ = some (.int .i64 0) := (blk_cell hbr' 1).trans rfl
        have z0 : u2.frozen? ⟨r, 0, none⟩ = false := blk_thawed hbr' 0
        have z1 : u2.frozen? ⟨r, 1, none⟩ = false := blk_thawed hbr' 1
        simp only [ansV]
        refine Wn.span1 6 1 1 (by simp [base]) (by decide) (by decide) (by rw [hfz2]; kernel_rfl) ?_
        simp only [List.take, List.drop]
        go_wp2_with fail
        refine ⟨rfl, ?_⟩
        refine Wn.range_end ?_
        obtain ⟨h9, hb9, hk9⟩ := M.answer h2 (hF2 _ hFr) hbr' a.code a.val
        refine Wn.ret (Wn.back rfl rfl Try.func72 (res34 (a := ⟨a.code, a.val⟩) rfl rfl hb9) ?_)
        exact hn _ _ _ C2 h9 (fun b hb => hF2 b (hF1 b hb)) ((hk1.trans' hF1 hk2).trans (hk9 F hnr))
end
end Go.Proofs.Ytoabkcalphpkhaa

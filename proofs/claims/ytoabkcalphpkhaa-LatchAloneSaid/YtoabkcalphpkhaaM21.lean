/- Merged: Alone5. -/
import Derived.Test.YtoabkcalphpkhaaM20
/- LatchAlone. (Printed by gen_alone5.py.) -/
namespace Go.Proofs.Ytoabkcalphpkhaa
open Go Go.Conc Go.RowKit
open Go.Proofs.YtoabkcalphpkhaaW.PrintWords Go.Proofs.YtoabkcalphpkhaaW.PrintLast Go.Proofs.YtoabkcalphpkhaaW.PrintMore
set_option linter.unusedVariables false
set_option linter.unusedSimpArgs false
set_option linter.unusedSectionVars false
set_option maxRecDepth 100000

section
variable {C : Ctx Try.prog} {u : World} {fr : Frame} {cs : List Frame}
theorem latchNew20_nilp (hfz : C.fz = true) {n : Int} (h0 : 0 ≤ n) (hn : ∀ b lb u', u'.heap[b]? = some (.cells (cCells 0 n) 105 (0, 0)) → u'.heap[lb]? = some (.cells #[ptr b] 90 (0, 0)) → Grown u u' → u.heap.size ≤ b → u.heap.size ≤ lb → Wn C (fr.finish (ptr lb)) cs u') :
    Wn C (Frame.enter Try.prog 20 #[.pointer none, num n] .normal) (fr :: cs) u := by
  refine Wn.body Try.func20 rfl ?_
  simp only [Try.ntmps20, List.size_toArray, List.length_cons, List.length_nil, Nat.reduceAdd, Nat.reduceSub, Array.replicate_succ, Array.replicate_zero, List.push_toArray, List.append_toArray, List.nil_append, List.cons_append]
  refine Wn.seq (Wn.reg (by simp [base]) (by rw [hfz]; kernel_rfl) ?_)
  go_wp2_with fail
  refine ⟨rfl, ?_⟩
  refine Wn.seq (Wn.open ?_)
  refine Wn.span1 0 3 7 (by simp [base]) (by decide) (by decide) (by rw [hfz]; kernel_rfl) ?_
  simp only [List.take, List.drop]
  go_wp2_with fail
  refine ⟨rfl, ?_⟩
  refine Wn.callC 3 4 3 rfl (by simp [base]) rfl rfl rfl (by kernel_rfl) ?_
  clear h0
  refine cellNew37_nil hfz ?_
  intro b u1 hb hg hbN
  rw [Frame.finish_at]
  have HB : Hid _ := hb
  have HG : Hid _ := hg
  have HN : Hid _ := hbN
  have hn : Hid _ := hn
  clear hb hg hbN
  refine Wn.span1 4 3 3 (by simp [base]) (by decide) (by decide) (by rw [hfz]; kernel_rfl) ?_
  simp only [List.take, List.drop]
  go_wp2_with fail
  refine ⟨rfl, ?_⟩
  have hg := Grown.alloc u1 (.cells #[ptr b] 90)
  have hlb : (u1.alloc (.cells #[ptr b] 90)).heap[u1.heap.size]? = some (.cells #[ptr b] 90 (0, 0)) := heap_alloc_new _ _
  generalize u1.alloc (.cells #[ptr b] 90) = u2 at hg hlb ⊢
  refine Wn.range_end (n := 0) (Wn.ret ?_)
  refine Wn.back rfl rfl Try.func20 (results_tmp rfl _ _ _) ?_
  exact hn.out b _ u2 ((hg.blk _ (blk_lt HB.out)).trans HB.out) hlb (HG.out.trans hg) HN.out HG.out.size
theorem latchNew20_niln (hfz : C.fz = true) {n : Int} (h0 : n < 0) (hn : ∀ b lb u', u'.heap[b]? = some (.cells (cCells 0 0) 105 (0, 0)) → u'.heap[lb]? = some (.cells #[ptr b] 90 (0, 0)) → Grown u u' → u.heap.size ≤ b → u.heap.size ≤ lb → Wn C (fr.finish (ptr lb)) cs u') :
    Wn C (Frame.enter Try.prog 20 #[.pointer none, num n] .normal) (fr :: cs) u := by
  refine Wn.body Try.func20 rfl ?_
  simp only [Try.ntmps20, List.size_toArray, List.length_cons, List.length_nil, Nat.reduceAdd, Nat.reduceSub, Array.replicate_succ, Array.replicate_zero, List.push_toArray, List.append_toArray, List.nil_append, List.cons_append]
  refine Wn.seq (Wn.reg (by simp [base]) (by rw [hfz]; kernel_rfl) ?_)
  go_wp2_with fail
  refine ⟨rfl, ?_⟩
  refine Wn.seq (Wn.open ?_)
  refine Wn.span1 0 3 7 (by simp [base]) (by decide) (by decide) (by rw [hfz]; kernel_rfl) ?_
  simp only [List.take, List.drop]
  go_wp2_with fail
  refine ⟨rfl, ?_⟩
  refine Wn.callC 3 4 3 rfl (by simp [base]) rfl rfl rfl (by kernel_rfl) ?_
  clear h0
  refine cellNew37_nil hfz ?_
  intro b u1 hb hg hbN
  rw [Frame.finish_at]
  have HB : Hid _ := hb
  have HG : Hid _ := hg
  have HN : Hid _ := hbN
  have hn : Hid _ := hn
  clear hb hg hbN
  refine Wn.span1 4 3 3 (by simp [base]) (by decide) (by decide) (by rw [hfz]; kernel_rfl) ?_
  simp only [List.take, List.drop]
  go_wp2_with fail
  refine ⟨rfl, ?_⟩
  have hg := Grown.alloc u1 (.cells #[ptr b] 90)
  have hlb : (u1.alloc (.cells #[ptr b] 90)).heap[u1.heap.size]? = some (.cells #[ptr b] 90 (0, 0)) := heap_alloc_new _ _
  generalize u1.alloc (.cells #[ptr b] 90) = u2 at hg hlb ⊢
  refine Wn.range_end (n := 0) (Wn.ret ?_)
  refine Wn.back rfl rfl Try.func20 (results_tmp rfl _ _ _) ?_
  exact hn.out b _ u2 ((hg.blk _ (blk_lt HB.out)).trans HB.out) hlb (HG.out.trans hg) HN.out HG.out.size
/-- latch.New, of no world. -/
theorem latchNew20_nil (hfz : C.fz = true) {n m : Int} (hmx : max n 0 = m) (hn : ∀ b lb u', u'.heap[b]? = some (.cells (cCells 0 m) 105 (0, 0)) → u'.heap[lb]? = some (.cells #[ptr b] 90 (0, 0)) → Grown u u' → u.heap.size ≤ b → u.heap.size ≤ lb → Wn C (fr.finish (ptr lb)) cs u') :
    Wn C (Frame.enter Try.prog 20 #[.pointer none, num n] .normal) (fr :: cs) u := by
  by_cases h0 : 0 ≤ n
  · rw [Int.max_eq_left h0] at hmx
    subst hmx
    exact latchNew20_nilp hfz h0 hn
  · rw [Int.max_eq_right (by omega)] at hmx
    subst hmx
    exact latchNew20_niln hfz (by omega) hn
/-- turn.Free. -/
theorem free21 (hfz : C.fz = true) {i : Int} (hn : ∀ T u', (∃ c : Array Value, u'.heap[T]? = some (.cells c 92 (0, 0)) ∧ c[0]? = some (.pointer none)) → Grown u u' → u.heap.size ≤ T → Wn C (fr.finish (ptr T)) cs u') :
    Wn C (Frame.enter Try.prog 21 #[num i] .normal) (fr :: cs) u := by
  have hn : Hid _ := hn
  refine Wn.body Try.func21 rfl ?_
  simp only [Try.ntmps21, List.size_toArray, List.length_cons, List.length_nil, Nat.reduceAdd, Nat.reduceSub, Array.replicate_succ, Array.replicate_zero, List.push_toArray, List.append_toArray, List.nil_append, List.cons_append]
  refine Wn.seq (Wn.reg (by simp [base]) (by rw [hfz]; kernel_rfl) ?_)
  go_wp2_with fail
  refine ⟨rfl, ?_⟩
  refine Wn.seq (Wn.reg (by simp [base]) (by rw [hfz]; kernel_rfl) ?_)
  go_wp2_with fail
  refine ⟨rfl, ?_⟩
  refine Wn.ret ?_
  refine Wn.back rfl rfl Try.func21 (results_tmp rfl _ _ _) ?_
  exact hn.out _ _ ⟨_, heap_alloc_new _ _, rfl⟩ (Grown.alloc _ _) (Nat.le_refl _)
end

theorem down_free {vals : Nat → Int} {e0 : Int} (h : e0 = if vals 0 = 0 then 50 else 0) : freeP (downP 0 (fun e => .ret [⟨e, 0⟩]) 1) vals = some (if vals 0 = 0 then updV vals 0 (vals 0) else updV (updV vals 0 (vals 0)) 0 (wrap64 (vals 0 - 1)), [⟨e0, 0⟩]) := by
  subst h
  by_cases h0 : vals 0 = 0
  · simp [downP, freeP, h0, updV]
  · simp [downP, freeP, h0, updV]
theorem wait_free {vals : Nat → Int} (h : vals 0 = 0) : freeP (waitP 0 (fun b => .ret [⟨if b then 1 else 0, 0⟩]) 1) vals = some (updV vals 0 (vals 0), [⟨1, 0⟩]) := by
  simp [waitP, freeP, h, updV]

/-- One call by the free thread: a latch counts down. -/
theorem down_call {Post : Value → World → Prop} {N : Nat} {u : World} {fr : Frame} {cs : List Frame} {T b lb : Nat} {left : Int} (ht : ∃ c : Array Value, u.heap[T]? = some (.cells c 92 (0, 0)) ∧ c[0]? = some (.pointer none)) (hb : u.heap[b]? = some (.cells (cCells 0 left) 105 (0, 0))) (hlb : u.heap[lb]? = some (.cells #[ptr b] 90 (0, 0))) (hin : In64 left) (h0 : 0 ≤ left)
    (hn : ∀ u', u'.heap[b]? = some (.cells (cCells 0 (max (left - 1) 0)) 105 (0, 0)) → (∀ x, x ≠ b → x < u.heap.size → u'.heap[x]? = u.heap[x]?) → u.heap.size ≤ u'.heap.size → u'.os = u.os → u'.output = u.output → Wn (ctxQ Post N) (fr.finish (num (if left = 0 then 50 else 0))) cs u') :
    Wn (ctxQ Post N) (Frame.enter Try.prog 23 #[ptr lb, ptr T] .normal) (fr :: cs) u := by
  refine Wn.toP (S := S0) (l := list0) ?_
  have hbl : lb ≠ b := ne_of_ty hlb hb (by decide)
  refine down23 (M := freeMode (ctxP Post N S0 list0) rfl rfl T 1 (fun _ => b) (fun x => if x = b then none else u.heap[x]?) (if left = 0 then updV (fun _ => left) 0 left else updV (updV (fun _ => left) 0 left) 0 (wrap64 (left - 1)), [⟨if left = 0 then 50 else 0, 0⟩]) u.os u.output) (c := 0) (k := fun e => .ret [⟨e, 0⟩]) (f := 1) (F := fun _ => False) ⟨rfl, ?_⟩ (by show 0 < 1; decide) ?_ ?_
  · refine ⟨rfl, rfl, ht, fun h => h, ⟨fun _ => left, fun c _ => ⟨hb, hin⟩, down_free (vals := fun _ => left) rfl⟩, fun _ _ h => h, fun x o ho => ?_, fun _ _ _ h => h, fun x o ho c _ e => ?_, fun c d hc hd _ => by omega, fun _ h => h.elim⟩
    · split at ho
      · cases ho
      · exact ho
    · rw [if_pos e] at ho; cases ho
  · show (if lb = b then none else u.heap[lb]?) = _
    rw [if_neg hbl]; exact hlb
  · rintro e F' u' C' ⟨rfl, h⟩ _ _
    refine Wn.toQ ?_
    obtain ⟨vals, h1, h2⟩ := h.cells
    have h3 : some (vals, [(⟨e, 0⟩ : Ans)]) = some _ := h2
    injection h3 with h3
    injection h3 with h4 h5
    have he : e = if left = 0 then 50 else 0 := by
      injection h5 with h6 _
      injection h6
    subst he
    have hv : vals 0 = max (left - 1) 0 := by
      rw [h4]
      by_cases hz : left = 0
      · rw [if_pos hz, hz]; simp [updV]; decide
      · rw [if_neg hz]
        have : wrap64 (left - 1) = left - 1 := by unfold In64 at hin; unfold wrap64; omega
        simp only [updV, if_true, this]
        omega
    have hkeep : ∀ x, x ≠ b → x < u.heap.size → u'.heap[x]? = u.heap[x]? := fun x hx hl => by
      have := h.ro x _ (show (if x = b then none else u.heap[x]?) = some _ by rw [if_neg hx]; exact Array.getElem?_eq_getElem hl)
      rw [this, Array.getElem?_eq_getElem hl]
    have hcell := (h1 0 (by decide)).1
    rw [hv] at hcell
    refine hn u' hcell hkeep ?_ h.os h.outp
    refine Nat.le_of_not_lt fun hlt => ?_
    have hbs := blk_lt hb
    have hbs' := blk_lt hcell
    by_cases e : u'.heap.size = b
    · have hbs' : b < u'.heap.size := hbs'
      omega
    · have := hkeep _ e hlt
      rw [Array.getElem?_eq_none (Nat.le_refl _), Array.getElem?_eq_getElem hlt] at this
      cases this
/-- .. or it is waited for, where nothing is left. -/
theorem wait_call {Post : Value → World → Prop} {N : Nat} {u : World} {fr : Frame} {cs : List Frame} {T b lb : Nat} (ht : ∃ c : Array Value, u.heap[T]? = some (.cells c 92 (0, 0)) ∧ c[0]? = some (.pointer none)) (hb : u.heap[b]? = some (.cells (cCells 0 0) 105 (0, 0))) (hlb : u.heap[lb]? = some (.cells #[ptr b] 90 (0, 0)))
    (hn : ∀ u', u'.heap[b]? = some (.cells (cCells 0 0) 105 (0, 0)) → (∀ x, x ≠ b → x < u.heap.size → u'.heap[x]? = u.heap[x]?) → u.heap.size ≤ u'.heap.size → u'.os = u.os → u'.output = u.output → Wn (ctxQ Post N) (fr.finish (.bool true)) cs u') :
    Wn (ctxQ Post N) (Frame.enter Try.prog 22 #[ptr lb, ptr T] .normal) (fr :: cs) u := by
  refine Wn.toP (S := S0) (l := list0) ?_
  have hbl : lb ≠ b := ne_of_ty hlb hb (by decide)
  refine wait22 (M := freeMode (ctxP Post N S0 list0) rfl rfl T 1 (fun _ => b) (fun x => if x = b then none else u.heap[x]?) (updV (fun _ => (0 : Int)) 0 0, [⟨1, 0⟩]) u.os u.output) (c := 0) (k := fun e => .ret [⟨if e then 1 else 0, 0⟩]) (f := 1) (F := fun _ => False) ⟨rfl, ?_⟩ (by show 0 < 1; decide) ?_ ?_
  · refine ⟨rfl, rfl, ht, fun h => h, ⟨fun _ => 0, fun c _ => ⟨hb, by show In64 0; unfold In64; omega⟩, wait_free (vals := fun _ => 0) rfl⟩, fun _ _ h => h, fun x o ho => ?_, fun _ _ _ h => h, fun x o ho c _ e => ?_, fun c d hc hd _ => by omega, fun _ h => h.elim⟩
    · split at ho
      · cases ho
      · exact ho
    · rw [if_pos e] at ho; cases ho
  · show (if lb = b then none else u.heap[lb]?) = _
    rw [if_neg hbl]; exact hlb
  · rintro e F' u' C' ⟨rfl, h⟩ _ _
    refine Wn.toQ ?_
    obtain ⟨vals, h1, h2⟩ := h.cells
    have h3 : some (vals, [(⟨if e then 1 else 0, 0⟩ : Ans)]) = some _ := h2
    injection h3 with h3
    injection h3 with h4 h5
    have he : e = true := by
      injection h5 with h6 _
      injection h6 with h7 _
      cases e
      · simp at h7
      · rfl
    subst he
    have hv : vals 0 = 0 := by rw [h4]; simp [updV]
    have hkeep : ∀ x, x ≠ b → x < u.heap.size → u'.heap[x]? = u.heap[x]? := fun x hx hl => by
      have := h.ro x _ (show (if x = b then none else u.heap[x]?) = some _ by rw [if_neg hx]; exact Array.getElem?_eq_getElem hl)
      rw [this, Array.getElem?_eq_getElem hl]
    have hcell := (h1 0 (by decide)).1
    rw [hv] at hcell
    refine hn u' hcell hkeep ?_ h.os h.outp
    refine Nat.le_of_not_lt fun hlt => ?_
    have hbs' : b < u'.heap.size := blk_lt hcell
    by_cases e : u'.heap.size = b
    · omega
    · have := hkeep _ e hlt
      rw [Array.getElem?_eq_none (Nat.le_refl _), Array.getElem?_eq_getElem hlt] at this
      cases this

theorem grown_like {u u1 w : World} (hg : Grown u u1) (hl : Like (fun _ => none) w u1) : Grown u w := ⟨fun b hb => (hl.blk b rfl).symm.trans (hg.blk b hb), by rw [← hl.size]; exact hg.size, hl.os.symm.trans hg.os, hl.out.symm.trans hg.out⟩
set_option maxHeartbeats 4000000 in
theorem alone5 {Post : Value → World → Prop} {u : World} {A : Option Addr} {cp : Nat} {xs : List Int} {n : Int} (hmx : xs.length ≤ 9223372036854775806) (hC : ∀ i, i < xs.length → ∃ ad, A = some ad ∧ u.cell? (ad.add i) = some (num (xs.getD i 0))) (hv : In64 n)
    (hpost : ∀ w, Grown u w → Post (.bool true) w) : Wn (ctxQ Post 1) (Frame.enter Try.prog 5 #[num n, .slice A xs.length cp] .normal) [] u := by
  have hfz : (ctxQ Post 1).fz = false := rfl
  have hpost : Hid _ := hpost
  have HV : Hid (In64 n) := hv
  clear hv
  refine Wn.body Try.func5 rfl ?_
  simp only [Try.ntmps5, List.size_toArray, List.length_cons, List.length_nil, Nat.reduceAdd, Nat.reduceSub, Array.replicate_succ, Array.replicate_zero, List.push_toArray, List.append_toArray, List.nil_append, List.cons_append]
  refine Wn.seq (Wn.reg (by simp [base]) (by rw [hfz]; kernel_rfl) ?_)
  go_wp2_with fail
  refine ⟨rfl, ?_⟩
  refine Wn.seq (Wn.open ?_)
  refine Wn.callC 0 2 1 rfl (by simp [base]) rfl rfl rfl (by kernel_rfl) ?_
  refine awake15 (N := 1) (by decide) ?_
  intro u0 hg0
  rw [Frame.finish_at]
  show Wn (ctxQ Post 3) _ _ _
  have hfz : (ctxQ Post 3).fz = false := rfl
  refine Wn.span1 1 1 1 (by simp [base]) (by decide) (by decide) (by rw [hfz]; kernel_rfl) ?_
  simp only [List.take, List.drop]
  go_wp2_with fail
  refine ⟨rfl, ?_⟩
  refine Wn.range_end (n := 0) ?_
  refine Wn.seq (Wn.open ?_)
  refine Wn.span1 0 1 3 (by simp [base]) (by decide) (by decide) (by rw [hfz]; kernel_rfl) ?_
  simp only [List.take, List.drop]
  go_wp2_with fail
  refine ⟨rfl, ?_⟩
  refine Wn.callC 1 2 1 rfl (by simp [base]) rfl rfl rfl (by kernel_rfl) ?_
  refine Wn.toP (S := S0) (l := list0) ?_
  refine latchNew20_nil (m := max n 0) rfl rfl ?_
  intro b lb u1 hb hlb hg1 hbN hlbN
  refine Wn.toQ ?_
  have HB := (show Hid _ from hb)
  have HL := (show Hid _ from hlb)
  have HG := (show Hid _ from hg0.trans hg1)
  have HBN := (show Hid (u.heap.size ≤ b) from Nat.le_trans hg0.size hbN)
  clear hb hlb hg1 hbN hlbN hg0
  rw [Frame.finish_at]
  refine Wn.span1 2 1 1 (by simp [base]) (by decide) (by decide) (by rw [hfz]; kernel_rfl) ?_
  simp only [List.take, List.drop]
  go_wp2_with fail
  refine ⟨rfl, ?_⟩
  refine Wn.range_end (n := 0) ?_
  refine Wn.seq (Wn.seq (Wn.reg (by simp [base]) (by rw [hfz]; kernel_rfl) ?_))
  go_wp2_with fail
  refine ⟨rfl, ?_⟩
  refine Wn.cond rfl ?_
  simp only [Bool.false_eq_true, if_false]
  refine Wn.skip (Wn.seq (Wn.open ?_))
  refine Wn.callC 0 2 1 rfl (by simp [base]) rfl rfl rfl (by kernel_rfl) ?_
  refine Wn.toP (S := S0) (l := list0) ?_
  refine free21 rfl ?_
  intro T u2 hT hg2 hTN
  refine Wn.toQ ?_
  have HB := (show Hid _ from (hg2.blk _ (blk_lt HB.out)).trans HB.out)
  have HL := (show Hid _ from (hg2.blk _ (blk_lt HL.out)).trans HL.out)
  have HG := (show Hid _ from HG.out.trans hg2)
  have HT : Hid _ := hT
  clear hT hg2 hTN
  rw [Frame.finish_at]
  refine Wn.span1 1 1 1 (by simp [base]) (by decide) (by decide) (by rw [hfz]; kernel_rfl) ?_
  simp only [List.take, List.drop]
  go_wp2_with fail
  refine ⟨rfl, ?_⟩
  refine Wn.range_end (n := 0) ?_
  by_cases h0 : 0 ≤ n
  · have HB : Hid (u2.heap[b]? = some (.cells (cCells 0 n) 105 (0, 0))) := by have h := HB.out; rw [Int.max_eq_left h0] at h; exact h
    have H0 : Hid (0 ≤ n) := h0
    refine Wn.seq (Wn.reg (by simp [base]) (by rw [hfz]; kernel_rfl) ?_)
    go_wp2_with fail
    refine ⟨rfl, ?_⟩
    clear h0
    refine Wn.seq (Wn.seq (Wn.reg (by simp [base]) (by rw [hfz]; kernel_rfl) ?_))
    go_wp2_with fail
    refine ⟨rfl, ?_⟩
    refine Wn.block ?_
    refine Wn.loop_ind (f := xs.length - 0 + 1) (fun f a u1 C1 => C1 = ctxQ Post 3 ∧ ∃ (i : Nat) (left : Int), f = xs.length - i + 1 ∧ i ≤ xs.length ∧ Hid (0 ≤ left) ∧ Hid (In64 left) ∧ Hid (u1.heap[b]? = some (.cells (cCells 0 left) 105 (0, 0))) ∧ Hid (u1.heap[lb]? = some (.cells #[ptr b] 90 (0, 0))) ∧ Hid (∃ c : Array Value, u1.heap[T]? = some (.cells c 92 (0, 0)) ∧ c[0]? = some (.pointer none)) ∧ Hid (Grown u u1) ∧ ∃ x10 x11 x12 x13 x14 x15 x16 x17 x18 x19 x20 x21 x22 x23 x24 x25 x26 x27 x28 x29 x30 x31 x32 x33 x34 x35 x36 x37 x38 x39 x40 x41 x42 x43 x44 x45 x46 x47 x48 x49 x50 x51 x52 x53 x54 x55 x56 x57 x58 x59 x60 x61 x62, a = { tmps := #[num n, .slice A xs.length cp, undef, undef, .bool false, .bool true, ptr lb, ptr T, num left, num i, x10, x11, x12, x13, x14, x15, x16, x17, x18, x19, x20, x21, x22, x23, x24, x25, x26, x27, x28, x29, x30, x31, x32, x33, x34, x35, x36, x37, x38, x39, x40, x41, x42, x43, x44, x45, x46, x47, x48, x49, x50, x51, x52, x53, x54, x55, x56, x57, x58, x59, x60, x61, x62], defers := [] }) ?_ ?_ ⟨rfl, 0, n, rfl, Nat.zero_le _, H0, HV, HB, HL, HT, HG, _, _, _, _, _, _, _, _, _, _, _, _, _, _, _, _, _, _, _, _, _, _, _, _, _, _, _, _, _, _, _, _, _, _, _, _, _, _, _, _, _, _, _, _, _, _, _, _, _, _, _, _, _, rfl⟩
    · rintro f ih a u1 C1 ⟨rfl, i, left, hf', hi, hl0, hl64, HB, HL, HT, HG, x10, x11, x12, x13, x14, x15, x16, x17, x18, x19, x20, x21, x22, x23, x24, x25, x26, x27, x28, x29, x30, x31, x32, x33, x34, x35, x36, x37, x38, x39, x40, x41, x42, x43, x44, x45, x46, x47, x48, x49, x50, x51, x52, x53, x54, x55, x56, x57, x58, x59, x60, x61, x62, rfl⟩
      by_cases hend : i < xs.length
      · obtain ⟨ad, rfl, q0⟩ := hC i hend
        have q0 := HG.out.cell q0
        generalize xs.getD i 0 = x at q0
        have d1 : decide ((i : Int) < (xs.length : Int)) = true := decide_eq_true (by omega)
        refine Wn.seq (Wn.seq (Wn.reg (by simp [base]) (by rw [hfz]; kernel_rfl) ?_))
        go_wp2_with fail
        refine ⟨rfl, ?_⟩
        refine Wn.cond rfl ?_
        simp only [if_true]
        clear d1
        have d1 : decide ((i : Int) < (xs.length : Int)) = true := decide_eq_true (by omega)
        have d2 : decide ((0 : Int) ≤ (i : Int)) = true := decide_eq_true (by omega)
        have d3 : (i : Int) < (xs.length : Int) := by omega
        have d4 : (0 : Int) ≤ (i : Int) := by omega
        refine Wn.skip (Wn.seq (Wn.block ?_))
        refine Wn.seq (Wn.seq (Wn.reg (by simp [base]) (by rw [hfz]; kernel_rfl) ?_))
        go_wp2_with fail
        refine ⟨rfl, ?_⟩
        refine Wn.cond rfl ?_
        generalize (bits BinOp.and IntKind.i64 x 1 == 0) = ev
        clear d1 d2 d3 d4 q0
        cases ev with
        | true =>
          simp only [if_true]
          by_cases hl : 0 < left
          · have e1 : decide (left > 0) = true := decide_eq_true hl
            have e2 : decide (0 < left) = true := decide_eq_true hl
            refine Wn.seq (Wn.seq (Wn.reg (by simp [base]) (by rw [hfz]; kernel_rfl) ?_))
            go_wp2_with fail
            refine ⟨rfl, ?_⟩
            refine Wn.cond rfl ?_
            simp only [if_true]
            refine Wn.exit rfl ?_
            clear e1 e2 hl
            refine Wn.reg (by simp [base]) (by rw [hfz]; kernel_rfl) ?_
            go_wp2_with fail
            refine ⟨rfl, ?_⟩
            refine ih _ _ _ ⟨rfl, i + 1, left, by omega, by omega, hl0, hl64, HB, HL, HT, HG, _, _, _, _, _, _, _, _, _, _, _, _, _, _, _, _, _, _, _, _, _, _, _, _, _, _, _, _, _, _, _, _, _, _, _, _, _, _, _, _, _, _, _, _, _, _, _, _, _, _, _, _, _, rfl⟩
          · have hz : left = 0 := by have := hl0.out; omega
            subst hz
            clear hl
            refine Wn.seq (Wn.seq (Wn.reg (by simp [base]) (by rw [hfz]; kernel_rfl) ?_))
            go_wp2_with fail
            refine ⟨rfl, ?_⟩
            refine Wn.cond rfl ?_
            simp only [Bool.false_eq_true, if_false]
            refine Wn.skip (Wn.seq (Wn.open ?_))
            refine Wn.span1 0 2 4 (by simp [base]) (by decide) (by decide) (by rw [hfz]; kernel_rfl) ?_
            simp only [List.take, List.drop]
            go_wp2_with fail
            refine ⟨rfl, ?_⟩
            refine Wn.callC 2 2 1 rfl (by simp [base]) rfl rfl rfl (by kernel_rfl) ?_
            refine wait_call (T := T) (b := b) (lb := lb) HT.out HB.out HL.out ?_
            intro u2 hb2 hk2 hs2 ho2 hp2
            rw [Frame.finish_at]
            have HB2 : Hid (u2.heap[b]? = some (.cells (cCells 0 0) 105 (0, 0))) := hb2
            have HL2 : Hid (u2.heap[lb]? = some (.cells #[ptr b] 90 (0, 0))) := (hk2 lb (ne_of_ty HL.out HB.out (by decide)) (blk_lt HL.out)).trans HL.out
            have HT2 : Hid (∃ c : Array Value, u2.heap[T]? = some (.cells c 92 (0, 0)) ∧ c[0]? = some (.pointer none)) := by
              obtain ⟨c, t1, t2⟩ := HT.out
              exact ⟨c, (hk2 T (ne_of_ty t1 HB.out (by decide)) (blk_lt t1)).trans t1, t2⟩
            have HG2 : Hid (Grown u u2) := ⟨fun x hx => (hk2 x (by have := HBN.out; omega) (Nat.lt_of_lt_of_le hx HG.out.size)).trans (HG.out.blk x hx), Nat.le_trans HG.out.size hs2, ho2.trans HG.out.os, hp2.trans HG.out.out⟩
            clear hb2 hk2 hs2 ho2 hp2
            refine Wn.span1 3 1 1 (by simp [base]) (by decide) (by decide) (by rw [hfz]; kernel_rfl) ?_
            simp only [List.take, List.drop]
            go_wp2_with fail
            refine ⟨rfl, ?_⟩
            refine Wn.range_end (n := 0) ?_
            refine Wn.seq (Wn.seq (Wn.reg (by simp [base]) (by rw [hfz]; kernel_rfl) ?_))
            go_wp2_with fail
            refine ⟨rfl, ?_⟩
            refine Wn.cond rfl ?_
            simp only [Bool.false_eq_true, if_false]
            refine Wn.skip (Wn.exit rfl ?_)
            refine Wn.reg (by simp [base]) (by rw [hfz]; kernel_rfl) ?_
            go_wp2_with fail
            refine ⟨rfl, ?_⟩
            refine ih _ _ _ ⟨rfl, i + 1, 0, by omega, by omega, hl0, hl64, HB2, HL2, HT2, HG2, _, _, _, _, _, _, _, _, _, _, _, _, _, _, _, _, _, _, _, _, _, _, _, _, _, _, _, _, _, _, _, _, _, _, _, _, _, _, _, _, _, _, _, _, _, _, _, _, _, _, _, _, _, rfl⟩
        | false =>
          simp only [Bool.false_eq_true, if_false]
          refine Wn.skip (Wn.seq (Wn.open ?_))
          refine Wn.span1 0 2 4 (by simp [base]) (by decide) (by decide) (by rw [hfz]; kernel_rfl) ?_
          simp only [List.take, List.drop]
          go_wp2_with fail
          refine ⟨rfl, ?_⟩
          refine Wn.callC 2 2 1 rfl (by simp [base]) rfl rfl rfl (by kernel_rfl) ?_
          refine down_call (T := T) (b := b) (lb := lb) (left := left) HT.out HB.out HL.out hl64.out hl0.out ?_
          intro u2 hb2 hk2 hs2 ho2 hp2
          rw [Frame.finish_at]
          have HB2 : Hid (u2.heap[b]? = some (.cells (cCells 0 (max (left - 1) 0)) 105 (0, 0))) := hb2
          have HL2 : Hid (u2.heap[lb]? = some (.cells #[ptr b] 90 (0, 0))) := (hk2 lb (ne_of_ty HL.out HB.out (by decide)) (blk_lt HL.out)).trans HL.out
          have HT2 : Hid (∃ c : Array Value, u2.heap[T]? = some (.cells c 92 (0, 0)) ∧ c[0]? = some (.pointer none)) := by
            obtain ⟨c, t1, t2⟩ := HT.out
            exact ⟨c, (hk2 T (ne_of_ty t1 HB.out (by decide)) (blk_lt t1)).trans t1, t2⟩
          have HG2 : Hid (Grown u u2) := ⟨fun x hx => (hk2 x (by have := HBN.out; omega) (Nat.lt_of_lt_of_le hx HG.out.size)).trans (HG.out.blk x hx), Nat.le_trans HG.out.size hs2, ho2.trans HG.out.os, hp2.trans HG.out.out⟩
          clear hb2 hk2 hs2 ho2 hp2
          by_cases hl : left = 0
          · subst hl
            simp only [if_true]
            have HB2 : Hid (u2.heap[b]? = some (.cells (cCells 0 0) 105 (0, 0))) := HB2
            refine Wn.span1 3 1 1 (by simp [base]) (by decide) (by decide) (by rw [hfz]; kernel_rfl) ?_
            simp only [List.take, List.drop]
            go_wp2_with fail
            refine ⟨rfl, ?_⟩
            refine Wn.range_end (n := 0) ?_
            refine Wn.seq (Wn.seq (Wn.reg (by simp [base]) (by rw [hfz]; kernel_rfl) ?_))
            go_wp2_with fail
            refine ⟨rfl, ?_⟩
            refine Wn.cond rfl ?_
            simp only [Bool.false_eq_true, if_false]
            refine Wn.skip (Wn.reg (by simp [base]) (by rw [hfz]; kernel_rfl) ?_)
            go_wp2_with fail
            refine ⟨rfl, ?_⟩
            refine Wn.inBlock ?_
            refine Wn.reg (by simp [base]) (by rw [hfz]; kernel_rfl) ?_
            go_wp2_with fail
            refine ⟨rfl, ?_⟩
            refine ih _ _ _ ⟨rfl, i + 1, 0, by omega, by omega, hl0, hl64, HB2, HL2, HT2, HG2, _, _, _, _, _, _, _, _, _, _, _, _, _, _, _, _, _, _, _, _, _, _, _, _, _, _, _, _, _, _, _, _, _, _, _, _, _, _, _, _, _, _, _, _, _, _, _, _, _, _, _, _, _, rfl⟩
          · rw [if_neg hl]
            have hp : 0 < left := by have := hl0.out; omega
            have h64 := hl64.out
            unfold In64 at h64
            have e1 : decide (left > 0) = true := decide_eq_true hp
            have e2 : decide (0 < left) = true := decide_eq_true hp
            have e3 : (left == 0) = false := beq_eq_false_iff_ne.mpr hl
            have e4 : decide (left = 0) = false := decide_eq_false hl
            have e5 : 0 ≤ left - 1 := by omega
            have e6 : left - 1 ≤ 9223372036854775807 := by omega
            have e7 : left ≤ 9223372036854775807 := by omega
            have HB2 : Hid (u2.heap[b]? = some (.cells (cCells 0 (left - 1)) 105 (0, 0))) := by
              have h := HB2.out
              rw [Int.max_eq_left e5] at h
              exact h
            refine Wn.span1 3 1 1 (by simp [base]) (by decide) (by decide) (by rw [hfz]; kernel_rfl) ?_
            simp only [List.take, List.drop]
            go_wp2_with fail
            refine ⟨rfl, ?_⟩
            refine Wn.range_end (n := 0) ?_
            refine Wn.seq (Wn.seq (Wn.reg (by simp [base]) (by rw [hfz]; kernel_rfl) ?_))
            go_wp2_with fail
            refine ⟨rfl, ?_⟩
            refine Wn.cond rfl ?_
            simp only [Bool.false_eq_true, if_false]
            refine Wn.skip (Wn.reg (by simp [base]) (by rw [hfz]; kernel_rfl) ?_)
            go_wp2_with fail
            refine ⟨rfl, ?_⟩
            refine Wn.inBlock ?_
            have hl0' : Hid (0 ≤ left - 1) := e5
            have hl64' : Hid (In64 (left - 1)) := by show In64 (left - 1); unfold In64; omega
            clear e1 e2 e3 e4 e5 e6 e7 hp h64 hl
            refine Wn.reg (by simp [base]) (by rw [hfz]; kernel_rfl) ?_
            go_wp2_with fail
            refine ⟨rfl, ?_⟩
            refine ih _ _ _ ⟨rfl, i + 1, left - 1, by omega, by omega, hl0', hl64', HB2, HL2, HT2, HG2, _, _, _, _, _, _, _, _, _, _, _, _, _, _, _, _, _, _, _, _, _, _, _, _, _, _, _, _, _, _, _, _, _, _, _, _, _, _, _, _, _, _, _, _, _, _, _, _, _, _, _, _, _, rfl⟩
      · have hil : i = xs.length := by omega
        subst hil
        have d1 : decide ((xs.length : Int) < (xs.length : Int)) = false := decide_eq_false (by omega)
        refine Wn.seq (Wn.seq (Wn.reg (by simp [base]) (by rw [hfz]; kernel_rfl) ?_))
        go_wp2_with fail
        refine ⟨rfl, ?_⟩
        refine Wn.cond rfl ?_
        simp only [Bool.false_eq_true, if_false]
        clear d1
        refine Wn.exit rfl ?_
        refine Wn.seq (Wn.reg (by simp [base]) (by rw [hfz]; kernel_rfl) ?_)
        go_wp2_with fail
        refine ⟨rfl, ?_⟩
        refine Wn.ret ?_
        exact Wn.finish (v := .bool true) (by decide) rfl rfl Try.func5 (fun w => runT_results1 (fn := Try.f5) (t := 4) rfl _ w) rfl (fun _ => rfl) fun w hl => hpost.out w (grown_like HG.out hl)
    · rintro a u1 C1 ⟨_, i, left, hf', _⟩
      omega
  · have h0 : n < 0 := by omega
    have HB : Hid (u2.heap[b]? = some (.cells (cCells 0 0) 105 (0, 0))) := by have h := HB.out; rw [Int.max_eq_right (by omega)] at h; exact h
    refine Wn.seq (Wn.reg (by simp [base]) (by rw [hfz]; kernel_rfl) ?_)
    go_wp2_with fail
    refine ⟨rfl, ?_⟩
    clear h0
    refine Wn.seq (Wn.seq (Wn.reg (by simp [base]) (by rw [hfz]; kernel_rfl) ?_))
    go_wp2_with fail
    refine ⟨rfl, ?_⟩
    refine Wn.block ?_
    refine Wn.loop_ind (f := xs.length - 0 + 1) (fun f a u1 C1 => C1 = ctxQ Post 3 ∧ ∃ (i : Nat) (left : Int), f = xs.length - i + 1 ∧ i ≤ xs.length ∧ Hid (0 ≤ left) ∧ Hid (In64 left) ∧ Hid (u1.heap[b]? = some (.cells (cCells 0 left) 105 (0, 0))) ∧ Hid (u1.heap[lb]? = some (.cells #[ptr b] 90 (0, 0))) ∧ Hid (∃ c : Array Value, u1.heap[T]? = some (.cells c 92 (0, 0)) ∧ c[0]? = some (.pointer none)) ∧ Hid (Grown u u1) ∧ ∃ x10 x11 x12 x13 x14 x15 x16 x17 x18 x19 x20 x21 x22 x23 x24 x25 x26 x27 x28 x29 x30 x31 x32 x33 x34 x35 x36 x37 x38 x39 x40 x41 x42 x43 x44 x45 x46 x47 x48 x49 x50 x51 x52 x53 x54 x55 x56 x57 x58 x59 x60 x61 x62, a = { tmps := #[num n, .slice A xs.length cp, undef, undef, .bool false, .bool true, ptr lb, ptr T, num left, num i, x10, x11, x12, x13, x14, x15, x16, x17, x18, x19, x20, x21, x22, x23, x24, x25, x26, x27, x28, x29, x30, x31, x32, x33, x34, x35, x36, x37, x38, x39, x40, x41, x42, x43, x44, x45, x46, x47, x48, x49, x50, x51, x52, x53, x54, x55, x56, x57, x58, x59, x60, x61, x62], defers := [] }) ?_ ?_ ⟨rfl, 0, 0, rfl, Nat.zero_le _, (show Hid ((0 : Int) ≤ 0) from Int.le_refl _), (show Hid (In64 0) from by show In64 0; unfold In64; omega), HB, HL, HT, HG, _, _, _, _, _, _, _, _, _, _, _, _, _, _, _, _, _, _, _, _, _, _, _, _, _, _, _, _, _, _, _, _, _, _, _, _, _, _, _, _, _, _, _, _, _, _, _, _, _, _, _, _, _, rfl⟩
    · rintro f ih a u1 C1 ⟨rfl, i, left, hf', hi, hl0, hl64, HB, HL, HT, HG, x10, x11, x12, x13, x14, x15, x16, x17, x18, x19, x20, x21, x22, x23, x24, x25, x26, x27, x28, x29, x30, x31, x32, x33, x34, x35, x36, x37, x38, x39, x40, x41, x42, x43, x44, x45, x46, x47, x48, x49, x50, x51, x52, x53, x54, x55, x56, x57, x58, x59, x60, x61, x62, rfl⟩
      by_cases hend : i < xs.length
      · obtain ⟨ad, rfl, q0⟩ := hC i hend
        have q0 := HG.out.cell q0
        generalize xs.getD i 0 = x at q0
        have d1 : decide ((i : Int) < (xs.length : Int)) = true := decide_eq_true (by omega)
        refine Wn.seq (Wn.seq (Wn.reg (by simp [base]) (by rw [hfz]; kernel_rfl) ?_))
        go_wp2_with fail
        refine ⟨rfl, ?_⟩
        refine Wn.cond rfl ?_
        simp only [if_true]
        clear d1
        have d1 : decide ((i : Int) < (xs.length : Int)) = true := decide_eq_true (by omega)
        have d2 : decide ((0 : Int) ≤ (i : Int)) = true := decide_eq_true (by omega)
        have d3 : (i : Int) < (xs.length : Int) := by omega
        have d4 : (0 : Int) ≤ (i : Int) := by omega
        refine Wn.skip (Wn.seq (Wn.block ?_))
        refine Wn.seq (Wn.seq (Wn.reg (by simp [base]) (by rw [hfz]; kernel_rfl) ?_))
        go_wp2_with fail
        refine ⟨rfl, ?_⟩
        refine Wn.cond rfl ?_
        generalize (bits BinOp.and IntKind.i64 x 1 == 0) = ev
        clear d1 d2 d3 d4 q0
        cases ev with
        | true =>
          simp only [if_true]
          by_cases hl : 0 < left
          · have e1 : decide (left > 0) = true := decide_eq_true hl
            have e2 : decide (0 < left) = true := decide_eq_true hl
            refine Wn.seq (Wn.seq (Wn.reg (by simp [base]) (by rw [hfz]; kernel_rfl) ?_))
            go_wp2_with fail
            refine ⟨rfl, ?_⟩
            refine Wn.cond rfl ?_
            simp only [if_true]
            refine Wn.exit rfl ?_
            clear e1 e2 hl
            refine Wn.reg (by simp [base]) (by rw [hfz]; kernel_rfl) ?_
            go_wp2_with fail
            refine ⟨rfl, ?_⟩
            refine ih _ _ _ ⟨rfl, i + 1, left, by omega, by omega, hl0, hl64, HB, HL, HT, HG, _, _, _, _, _, _, _, _, _, _, _, _, _, _, _, _, _, _, _, _, _, _, _, _, _, _, _, _, _, _, _, _, _, _, _, _, _, _, _, _, _, _, _, _, _, _, _, _, _, _, _, _, _, rfl⟩
          · have hz : left = 0 := by have := hl0.out; omega
            subst hz
            clear hl
            refine Wn.seq (Wn.seq (Wn.reg (by simp [base]) (by rw [hfz]; kernel_rfl) ?_))
            go_wp2_with fail
            refine ⟨rfl, ?_⟩
            refine Wn.cond rfl ?_
            simp only [Bool.false_eq_true, if_false]
            refine Wn.skip (Wn.seq (Wn.open ?_))
            refine Wn.span1 0 2 4 (by simp [base]) (by decide) (by decide) (by rw [hfz]; kernel_rfl) ?_
            simp only [List.take, List.drop]
            go_wp2_with fail
            refine ⟨rfl, ?_⟩
            refine Wn.callC 2 2 1 rfl (by simp [base]) rfl rfl rfl (by kernel_rfl) ?_
            refine wait_call (T := T) (b := b) (lb := lb) HT.out HB.out HL.out ?_
            intro u2 hb2 hk2 hs2 ho2 hp2
            rw [Frame.finish_at]
            have HB2 : Hid (u2.heap[b]? = some (.cells (cCells 0 0) 105 (0, 0))) := hb2
            have HL2 : Hid (u2.heap[lb]? = some (.cells #[ptr b] 90 (0, 0))) := (hk2 lb (ne_of_ty HL.out HB.out (by decide)) (blk_lt HL.out)).trans HL.out
            have HT2 : Hid (∃ c : Array Value, u2.heap[T]? = some (.cells c 92 (0, 0)) ∧ c[0]? = some (.pointer none)) := by
              obtain ⟨c, t1, t2⟩ := HT.out
              exact ⟨c, (hk2 T (ne_of_ty t1 HB.out (by decide)) (blk_lt t1)).trans t1, t2⟩
            have HG2 : Hid (Grown u u2) := ⟨fun x hx => (hk2 x (by have := HBN.out; omega) (Nat.lt_of_lt_of_le hx HG.out.size)).trans (HG.out.blk x hx), Nat.le_trans HG.out.size hs2, ho2.trans HG.out.os, hp2.trans HG.out.out⟩
            clear hb2 hk2 hs2 ho2 hp2
            refine Wn.span1 3 1 1 (by simp [base]) (by decide) (by decide) (by rw [hfz]; kernel_rfl) ?_
            simp only [List.take, List.drop]
            go_wp2_with fail
            refine ⟨rfl, ?_⟩
            refine Wn.range_end (n := 0) ?_
            refine Wn.seq (Wn.seq (Wn.reg (by simp [base]) (by rw [hfz]; kernel_rfl) ?_))
            go_wp2_with fail
            refine ⟨rfl, ?_⟩
            refine Wn.cond rfl ?_
            simp only [Bool.false_eq_true, if_false]
            refine Wn.skip (Wn.exit rfl ?_)
            refine Wn.reg (by simp [base]) (by rw [hfz]; kernel_rfl) ?_
            go_wp2_with fail
            refine ⟨rfl, ?_⟩
            refine ih _ _ _ ⟨rfl, i + 1, 0, by omega, by omega, hl0, hl64, HB2, HL2, HT2, HG2, _, _, _, _, _, _, _, _, _, _, _, _, _, _, _, _, _, _, _, _, _, _, _, _, _, _, _, _, _, _, _, _, _, _, _, _, _, _, _, _, _, _, _, _, _, _, _, _, _, _, _, _, _, rfl⟩
        | false =>
          simp only [Bool.false_eq_true, if_false]
          refine Wn.skip (Wn.seq (Wn.open ?_))
          refine Wn.span1 0 2 4 (by simp [base]) (by decide) (by decide) (by rw [hfz]; kernel_rfl) ?_
          simp only [List.take, List.drop]
          go_wp2_with fail
          refine ⟨rfl, ?_⟩
          refine Wn.callC 2 2 1 rfl (by simp [base]) rfl rfl rfl (by kernel_rfl) ?_
          refine down_call (T := T) (b := b) (lb := lb) (left := left) HT.out HB.out HL.out hl64.out hl0.out ?_
          intro u2 hb2 hk2 hs2 ho2 hp2
          rw [Frame.finish_at]
          have HB2 : Hid (u2.heap[b]? = some (.cells (cCells 0 (max (left - 1) 0)) 105 (0, 0))) := hb2
          have HL2 : Hid (u2.heap[lb]? = some (.cells #[ptr b] 90 (0, 0))) := (hk2 lb (ne_of_ty HL.out HB.out (by decide)) (blk_lt HL.out)).trans HL.out
          have HT2 : Hid (∃ c : Array Value, u2.heap[T]? = some (.cells c 92 (0, 0)) ∧ c[0]? = some (.pointer none)) := by
            obtain ⟨c, t1, t2⟩ := HT.out
            exact ⟨c, (hk2 T (ne_of_ty t1 HB.out (by decide)) (blk_lt t1)).trans t1, t2⟩
          have HG2 : Hid (Grown u u2) := ⟨fun x hx => (hk2 x (by have := HBN.out; omega) (Nat.lt_of_lt_of_le hx HG.out.size)).trans (HG.out.blk x hx), Nat.le_trans HG.out.size hs2, ho2.trans HG.out.os, hp2.trans HG.out.out⟩
          clear hb2 hk2 hs2 ho2 hp2
          by_cases hl : left = 0
          · subst hl
            simp only [if_true]
            have HB2 : Hid (u2.heap[b]? = some (.cells (cCells 0 0) 105 (0, 0))) := HB2
            refine Wn.span1 3 1 1 (by simp [base]) (by decide) (by decide) (by rw [hfz]; kernel_rfl) ?_
            simp only [List.take, List.drop]
            go_wp2_with fail
            refine ⟨rfl, ?_⟩
            refine Wn.range_end (n := 0) ?_
            refine Wn.seq (Wn.seq (Wn.reg (by simp [base]) (by rw [hfz]; kernel_rfl) ?_))
            go_wp2_with fail
            refine ⟨rfl, ?_⟩
            refine Wn.cond rfl ?_
            simp only [Bool.false_eq_true, if_false]
            refine Wn.skip (Wn.reg (by simp [base]) (by rw [hfz]; kernel_rfl) ?_)
            go_wp2_with fail
            refine ⟨rfl, ?_⟩
            refine Wn.inBlock ?_
            refine Wn.reg (by simp [base]) (by rw [hfz]; kernel_rfl) ?_
            go_wp2_with fail
            refine ⟨rfl, ?_⟩
            refine ih _ _ _ ⟨rfl, i + 1, 0, by omega, by omega, hl0, hl64, HB2, HL2, HT2, HG2, _, _, _, _, _, _, _, _, _, _, _, _, _, _, _, _, _, _, _, _, _, _, _, _, _, _, _, _, _, _, _, _, _, _, _, _, _, _, _, _, _, _, _, _, _, _, _, _, _, _, _, _, _, rfl⟩
          · rw [if_neg hl]
            have hp : 0 < left := by have := hl0.out; omega
            have h64 := hl64.out
            unfold In64 at h64
            have e1 : decide (left > 0) = true := decide_eq_true hp
            have e2 : decide (0 < left) = true := decide_eq_true hp
            have e3 : (left == 0) = false := beq_eq_false_iff_ne.mpr hl
            have e4 : decide (left = 0) = false := decide_eq_false hl
            have e5 : 0 ≤ left - 1 := by omega
            have e6 : left - 1 ≤ 9223372036854775807 := by omega
            have e7 : left ≤ 9223372036854775807 := by omega
            have HB2 : Hid (u2.heap[b]? = some (.cells (cCells 0 (left - 1)) 105 (0, 0))) := by
              have h := HB2.out
              rw [Int.max_eq_left e5] at h
              exact h
            refine Wn.span1 3 1 1 (by simp [base]) (by decide) (by decide) (by rw [hfz]; kernel_rfl) ?_
            simp only [List.take, List.drop]
            go_wp2_with fail
            refine ⟨rfl, ?_⟩
            refine Wn.range_end (n := 0) ?_
            refine Wn.seq (Wn.seq (Wn.reg (by simp [base]) (by rw [hfz]; kernel_rfl) ?_))
            go_wp2_with fail
            refine ⟨rfl, ?_⟩
            refine Wn.cond rfl ?_
            simp only [Bool.false_eq_true, if_false]
            refine Wn.skip (Wn.reg (by simp [base]) (by rw [hfz]; kernel_rfl) ?_)
            go_wp2_with fail
            refine ⟨rfl, ?_⟩
            refine Wn.inBlock ?_
            have hl0' : Hid (0 ≤ left - 1) := e5
            have hl64' : Hid (In64 (left - 1)) := by show In64 (left - 1); unfold In64; omega
            clear e1 e2 e3 e4 e5 e6 e7 hp h64 hl
            refine Wn.reg (by simp [base]) (by rw [hfz]; kernel_rfl) ?_
            go_wp2_with fail
            refine ⟨rfl, ?_⟩
            refine ih _ _ _ ⟨rfl, i + 1, left - 1, by omega, by omega, hl0', hl64', HB2, HL2, HT2, HG2, _, _, _, _, _, _, _, _, _, _, _, _, _, _, _, _, _, _, _, _, _, _, _, _, _, _, _, _, _, _, _, _, _, _, _, _, _, _, _, _, _, _, _, _, _, _, _, _, _, _, _, _, _, rfl⟩
      · have hil : i = xs.length := by omega
        subst hil
        have d1 : decide ((xs.length : Int) < (xs.length : Int)) = false := decide_eq_false (by omega)
        refine Wn.seq (Wn.seq (Wn.reg (by simp [base]) (by rw [hfz]; kernel_rfl) ?_))
        go_wp2_with fail
        refine ⟨rfl, ?_⟩
        refine Wn.cond rfl ?_
        simp only [Bool.false_eq_true, if_false]
        clear d1
        refine Wn.exit rfl ?_
        refine Wn.seq (Wn.reg (by simp [base]) (by rw [hfz]; kernel_rfl) ?_)
        go_wp2_with fail
        refine ⟨rfl, ?_⟩
        refine Wn.ret ?_
        exact Wn.finish (v := .bool true) (by decide) rfl rfl Try.func5 (fun w => runT_results1 (fn := Try.f5) (t := 4) rfl _ w) rfl (fun _ => rfl) fun w hl => hpost.out w (grown_like HG.out hl)
    · rintro a u1 C1 ⟨_, i, left, hf', _⟩
      omega
end Go.Proofs.Ytoabkcalphpkhaa

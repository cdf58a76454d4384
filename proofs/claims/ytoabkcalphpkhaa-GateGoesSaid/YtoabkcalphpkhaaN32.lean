/- Merged: Awake45. -/
import Derived.Test.YtoabkcalphpkhaaN29
import Derived.Test.YtoabkcalphpkhaaN31
/- butlerlaw06's awake. (Printed by gen_awake45.py.) -/
namespace Go.Proofs.Ytoabkcalphpkhaa
open Go Go.Conc Go.RowKit
open Go.Proofs.YtoabkcalphpkhaaW.PrintWords
set_option linter.unusedVariables false
set_option linter.unusedSimpArgs false
set_option linter.unusedSectionVars false
set_option maxRecDepth 100000

section
variable {C : Ctx Try.prog} {u : World} {fr : Frame} {cs : List Frame}
/-- turn.Free. -/
theorem turnFree21 (hfz : C.fz = true) {i : Int} (hn : ∀ T u', (∃ c : Array Value, u'.heap[T]? = some (.cells c 92 (0, 0)) ∧ c[0]? = some (.pointer none)) → Grown u u' → u.heap.size ≤ T → Wn C (fr.finish (ptr T)) cs u') :
    Wn C (Frame.enter Try.prog 21 #[num i] .normal) (fr :: cs) u := by
  have hn : Hid _ := hn
  refine Wn.body Try.func21 rfl ?_
  simp only [Try.ntmps21, List.size_toArray, List.length_cons, List.length_nil, Nat.reduceAdd, Nat.reduceSub, Array.replicate_succ, Array.replicate_zero, List.push_toArray, List.append_toArray, List.nil_append, List.cons_append]
  refine Wn.seq (Wn.reg (by simp [base]) (by rw [hfz]; kernel_rfl) ?_)
  go_wp2_with fail
  refine ⟨rfl, ?_⟩
  refine Wn.seq (Wn.reg (by simp [base]) (by rw [hfz]; kernel_rfl) ?_)
  go_wp2_with fail
  refine ⟨rfl, ?_⟩
  refine Wn.ret ?_
  refine Wn.back rfl rfl Try.func21 (results_tmp rfl _ _ _) ?_
  exact hn.out _ _ ⟨_, heap_alloc_new _ _, rfl⟩ (Grown.alloc _ _) (Nat.le_refl _)
/-- gate.Play of no world. -/
theorem gatePlay46_nil (hfz : C.fz = true) (hS : C.S = S0) {scripts : List (List Cal)} {SA : Option Addr} {scp : Nat} (hmx : scripts.length ≤ 9223372036854775806) (hs : Lists u SA scripts) (hn : Wn C (fr.finish (.tuple #[.slice none 0 0, num (nilOf scripts)])) cs u) :
    Wn C (Frame.enter Try.prog 46 #[.pointer none, .slice SA scripts.length scp] .normal) (fr :: cs) u := by
  have hn : Hid _ := hn
  refine Wn.body Try.func46 rfl ?_
  simp only [Try.ntmps46, List.size_toArray, List.length_cons, List.length_nil, Nat.reduceAdd, Nat.reduceSub, Array.replicate_succ, Array.replicate_zero, List.push_toArray, List.append_toArray, List.nil_append, List.cons_append]
  refine Wn.seq (Wn.reg (by simp [base]) (by rw [hfz]; kernel_rfl) ?_)
  go_wp2_with fail
  refine ⟨rfl, ?_⟩
  refine Wn.seq (Wn.seq (Wn.open ?_))
  refine Wn.span1 0 2 4 (by simp [base]) (by decide) (by decide) (by rw [hfz]; kernel_rfl) ?_
  simp only [List.take, List.drop]
  go_wp2_with fail
  refine ⟨rfl, ?_⟩
  refine Wn.callC 2 2 1 rfl (by simp [base]) rfl rfl rfl (by kernel_rfl) ?_
  refine may49_nil hS hmx hs ?_
  rw [Frame.finish_at]
  refine Wn.span1 3 1 1 (by simp [base]) (by decide) (by decide) (by rw [hfz]; kernel_rfl) ?_
  simp only [List.take, List.drop]
  go_wp2_with fail
  refine ⟨rfl, ?_⟩
  refine Wn.range_end ?_
  obtain ⟨e, he⟩ : ∃ e, Hid (e = nilOf scripts) := ⟨_, rfl⟩
  have hm : e ≠ 0 := by
    rw [he.out]
    unfold nilOf
    split <;> decide
  rw [← he.out] at hn ⊢
  have d1 : (e != 0) = true := bne_iff_ne.mpr hm
  have d2 : decide (e = 0) = false := decide_eq_false hm
  have d3 : (e == 0) = false := beq_eq_false_iff_ne.mpr hm
  refine Wn.seq (Wn.reg (by simp [base]) (by rw [hfz]; kernel_rfl) ?_)
  go_wp2_with fail
  refine ⟨rfl, ?_⟩
  refine Wn.cond rfl ?_
  simp only [if_true]
  refine Wn.seq (Wn.reg (by simp [base]) (by rw [hfz]; kernel_rfl) ?_)
  go_wp2_with fail
  refine ⟨rfl, ?_⟩
  refine Wn.ret ?_
  refine Wn.back rfl rfl Try.func46 (results_list (rs := [.tmp 4, .tmp 5]) rfl (by simp) (.tmp (.tmp .nil))) ?_
  exact hn.out
end

def awG : Option (Sys × List Park) := spawn [] 30 ([[(⟨1, 0, 0, 0⟩ : Cal), ⟨2, 0, 0, 0⟩, ⟨3, 0, 0, 0⟩]].map fun l => oneP (doGate 10) 0 l []) ⟨0, -1, [0], [0], [], false⟩ []
theorem awakeG_fin : ∃ fin, awG = some fin ∧ fin.1.trace.length ≤ 100 ∧ fin.2.map outOf = [[⟨0, 0⟩, ⟨0, 0⟩, ⟨0, 1⟩]] := by
  have h : awG.map (fun fin => (decide (fin.1.trace.length ≤ 100), fin.2.map outOf)) = some (true, [[⟨0, 0⟩, ⟨0, 0⟩, ⟨0, 1⟩]]) := by kernel_rfl
  obtain ⟨fin, h1, h2⟩ := Option.map_eq_some_iff.1 h
  injection h2 with h3 h4
  exact ⟨fin, h1, of_decide_eq_true h3, h4⟩

/-- Free calls of a gate: what it does. -/
theorem freeG_enter {v : Int} {b : Bool} (h : b = !gShut v) : freeP (casP 0 gShut (fun v => wrap64 (v + 2)) (fun b => .ret [⟨if b then 1 else 0, 0⟩]) 1) (fun _ => v) = some (if b then updV (updV (fun _ => v) 0 v) 0 (wrap64 (v + 2)) else updV (fun _ => v) 0 v, [⟨if b then 1 else 0, 0⟩]) := by
  subst h
  cases h0 : gShut v <;> simp [casP, freeP, h0, updV]
theorem freeG_leave {v : Int} {b : Bool} (h : b = !gLow v) : freeP (casP 0 gLow (fun v => wrap64 (v - 2)) (fun b => .ret [⟨if b then 1 else 0, 0⟩]) 1) (fun _ => v) = some (if b then updV (updV (fun _ => v) 0 v) 0 (wrap64 (v - 2)) else updV (fun _ => v) 0 v, [⟨if b then 1 else 0, 0⟩]) := by
  subst h
  cases h0 : gLow v <;> simp [casP, freeP, h0, updV]
theorem freeG_shut : freeP (casP 0 gShut (fun v => wrap64 (v + 1)) (fun b => untilP 0 gEnd (fun e => .ret [⟨if b then 1 else 0, if e then 1 else 0⟩]) 1) 1) (fun _ => 0) = some (updV (updV (updV (fun _ => 0) 0 0) 0 1) 0 1, [⟨1, 1⟩]) := by
  have h0 : gShut 0 = false := by decide
  have h1 : gEnd 1 = true := by decide
  have h2 : wrap64 1 = 1 := by unfold wrap64; omega
  simp [casP, untilP, freeP, h0, h1, h2, updV]

section
variable {Post : Value → World → Prop} {N : Nat} {u : World} {fr : Frame} {cs : List Frame} {T b gb : Nat}
/-- A gate, and a free thread, in memory. -/
structure GAt (T b gb : Nat) (v : Int) (u : World) : Prop where
  t : ∃ c : Array Value, u.heap[T]? = some (.cells c 92 (0, 0)) ∧ c[0]? = some (.pointer none)
  hb : u.heap[b]? = some (.cells (cCells 0 v) 105 (0, 0))
  hg : u.heap[gb]? = some (.cells #[ptr b] 137 (0, 0))
theorem GAt.next {v : Int} {vals : Nat → Int} {u' : World} (h : GAt T b gb v u) (he : FreeEnd 1 (fun _ => b) vals u u') : GAt T b gb (vals 0) u' := by
  have hb := blk_lt h.hb
  obtain ⟨c, t1, t2⟩ := h.t
  have hTb : T ≠ b := ne_of_ty t1 h.hb (by decide)
  have hgb : gb ≠ b := ne_of_ty h.hg h.hb (by decide)
  exact ⟨⟨c, (he.keep T (blk_lt t1) fun _ _ => hTb).trans t1, t2⟩, (he.cells 0 (by decide)).1, (he.keep gb (blk_lt h.hg) fun _ _ => hgb).trans h.hg⟩
def KeptBut (b : Nat) (u u' : World) : Prop := (∀ x, x < u.heap.size → x ≠ b → u'.heap[x]? = u.heap[x]?) ∧ u.heap.size ≤ u'.heap.size ∧ u'.os = u.os ∧ u'.output = u.output
theorem FreeEnd.kept {vals : Nat → Int} {u' : World} (he : FreeEnd 1 (fun _ => b) vals u u') : KeptBut b u u' := ⟨fun x hx hb => he.keep x hx fun _ _ => hb, he.size, he.os, he.outp⟩
theorem KeptBut.trans {u1 u2 : World} (h : KeptBut b u u1) (h' : KeptBut b u1 u2) : KeptBut b u u2 := ⟨fun x hx hb => (h'.1 x (Nat.lt_of_lt_of_le hx h.2.1) hb).trans (h.1 x hx hb), Nat.le_trans h.2.1 h'.2.1, h'.2.2.1.trans h.2.2.1, h'.2.2.2.trans h.2.2.2⟩
theorem enter_call {v v' : Int} {e : Bool} (h : GAt T b gb v u) (hv : In64 v) (he : e = !gShut v) (hv' : v' = if e then wrap64 (v + 2) else v) (hn : ∀ u', GAt T b gb v' u' → KeptBut b u u' → Wn (ctxQ Post N) (fr.finish (num (if e then 0 else 60))) cs u') :
    Wn (ctxQ Post N) (Frame.enter Try.prog 69 #[ptr gb, ptr T] .normal) (fr :: cs) u := by
  refine Wn.toP (S := S0) (l := list0) ?_
  refine enter69 (M := freeM Post N T 1 (fun _ => b) u _) (free_at h.t (fun c _ => ⟨h.hb, hv⟩) (fun c d hc hd _ => by omega) (freeG_enter he)) (by show 0 < 1; decide) ?_ ?_
  · show restRo _ _ _ gb = _
    rw [restRo_some fun _ _ => ne_of_ty h.hg h.hb (by decide)]; exact h.hg
  · intro e' F' u' C' hat _ _
    obtain ⟨rfl, h1, h2⟩ := free_end (fun _ _ => blk_lt h.hb) hat
    have he' : e' = e := by
      injection h1 with h3
      injection h3 with h4
      cases e <;> cases e' <;> simp at h4 ⊢
    subst he'
    refine Wn.toQ (hn u' ?_ h2.kept)
    have := h.next h2
    have hv0 : v' = (if e' then updV (updV (fun _ => v) 0 v) 0 (wrap64 (v + 2)) else updV (fun _ => v) 0 v) 0 := by rw [hv']; cases e' <;> simp [updV]
    rw [hv0]; exact this
theorem leave_call {v v' : Int} {e : Bool} (h : GAt T b gb v u) (hv : In64 v) (he : e = !gLow v) (hv' : v' = if e then wrap64 (v - 2) else v) (hn : ∀ u', GAt T b gb v' u' → KeptBut b u u' → Wn (ctxQ Post N) (fr.finish (num (if e then 0 else 61))) cs u') :
    Wn (ctxQ Post N) (Frame.enter Try.prog 70 #[ptr gb, ptr T] .normal) (fr :: cs) u := by
  refine Wn.toP (S := S0) (l := list0) ?_
  refine leave70 (M := freeM Post N T 1 (fun _ => b) u _) (free_at h.t (fun c _ => ⟨h.hb, hv⟩) (fun c d hc hd _ => by omega) (freeG_leave he)) (by show 0 < 1; decide) ?_ ?_
  · show restRo _ _ _ gb = _
    rw [restRo_some fun _ _ => ne_of_ty h.hg h.hb (by decide)]; exact h.hg
  · intro e' F' u' C' hat _ _
    obtain ⟨rfl, h1, h2⟩ := free_end (fun _ _ => blk_lt h.hb) hat
    have he' : e' = e := by
      injection h1 with h3
      injection h3 with h4
      cases e <;> cases e' <;> simp at h4 ⊢
    subst he'
    refine Wn.toQ (hn u' ?_ h2.kept)
    have := h.next h2
    have hv0 : v' = (if e' then updV (updV (fun _ => v) 0 v) 0 (wrap64 (v - 2)) else updV (fun _ => v) 0 v) 0 := by rw [hv']; cases e' <;> simp [updV]
    rw [hv0]; exact this
theorem shut_call (h : GAt T b gb 0 u) (hn : ∀ u', GAt T b gb 1 u' → KeptBut b u u' → Wn (ctxQ Post N) (fr.finish (.tuple #[.bool true, num 0])) cs u') :
    Wn (ctxQ Post N) (Frame.enter Try.prog 71 #[ptr gb, ptr T] .normal) (fr :: cs) u := by
  refine Wn.toP (S := S0) (l := list0) ?_
  refine shut71 (k := fun b e => .ret [⟨if b then 1 else 0, if e then 1 else 0⟩]) (M := freeM Post N T 1 (fun _ => b) u _) (free_at h.t (fun c _ => ⟨h.hb, by show In64 0; unfold In64; omega⟩) (fun c d hc hd _ => by omega) freeG_shut) (by show 0 < 1; decide) ?_ ?_
  · show restRo _ _ _ gb = _
    rw [restRo_some fun _ _ => ne_of_ty h.hg h.hb (by decide)]; exact h.hg
  · intro b' e' F' u' C' hat _ _
    obtain ⟨rfl, h1, h2⟩ := free_end (fun _ _ => blk_lt h.hb) hat
    injection h1 with h3
    injection h3 with h4 h5
    have hb' : b' = true := by cases b' <;> simp at h4 ⊢
    have he' : e' = true := by cases e' <;> simp at h5 ⊢
    subst hb'
    subst he'
    refine Wn.toQ (hn u' ?_ h2.kept)
    have := h.next h2
    exact this
end
section
variable {Post : Value → World → Prop} {N : Nat} {u : World} {fr : Frame} {cs : List Frame}
set_option maxHeartbeats 4000000 in
theorem awake45 (hN : 0 < N) (hn : ∀ u', Grown u u' → Wn (ctxQ Post (N + 1)) (fr.finish (.bool true)) cs u') : Wn (ctxQ Post N) (Frame.enter Try.prog 45 #[] .normal) (fr :: cs) u := by
  refine Wn.toP (S := S0) (l := list0) ?_
  have hfz : (ctxP Post N S0 list0).fz = true := rfl
  have hn : Hid (∀ u', Grown u u' → Wn (ctxQ Post (N + 1)) (fr.finish (.bool true)) cs u') := hn
  refine Wn.body Try.func45 rfl ?_
  simp only [Try.ntmps45, List.size_toArray, List.length_cons, List.length_nil, Nat.reduceAdd, Nat.reduceSub, Array.replicate_succ, Array.replicate_zero, List.push_toArray, List.append_toArray, List.nil_append, List.cons_append]
  refine Wn.seq (Wn.reg (by simp [base]) (by rw [hfz]; kernel_rfl) ?_)
  go_wp2_with fail
  refine ⟨rfl, ?_⟩
  refine Wn.seq (Wn.open ?_)
  refine Wn.callC 0 2 1 rfl (by simp [base]) rfl rfl rfl (by kernel_rfl) ?_
  refine new16 (A := none) (n := 0) (cp := 0) (xs := []) hfz rfl ⟨rfl, by decide, fun h => absurd h (by decide)⟩ (by decide) ?_
  intro W back sv u1 hg1 hWN hbkN hsvN hf1
  rw [Frame.finish_at]
  have HF : Hid (Fresh0 W back sv (.slice none 0 0) [] 0 [] [] u1) := hf1
  have HG : Hid (Grown u u1) := hg1
  have HW : Hid (u.heap.size ≤ W) := hWN
  have HB : Hid (u.heap.size ≤ back) := hbkN
  clear hf1 hg1 hWN hsvN hbkN
  refine Wn.span1 1 1 1 (by simp [base]) (by decide) (by decide) (by rw [hfz]; kernel_rfl) ?_
  simp only [List.take, List.drop]
  go_wp2_with fail
  refine ⟨rfl, ?_⟩
  refine Wn.range_end (n := 0) ?_
  refine Wn.seq (Wn.open ?_)
  refine Wn.span1 0 6 12 (by simp [base]) (by decide) (by decide) (by rw [hfz]; kernel_rfl) ?_
  simp only [List.take, List.drop]
  go_wp2_with fail
  refine ⟨rfl, ?_⟩
  have hg3 : Grown u1 ((u1.alloc (.cells #[num 1, num 0, num 0, num 0, num 2, num 0, num 0, num 0, num 3, num 0, num 0, num 0] 36)).alloc (.cells #[.slice (some ⟨u1.heap.size, 0, none⟩) 3 3] 32)) := (Grown.alloc _ _).trans (Grown.alloc _ _)
  have hb0 : ((u1.alloc (.cells #[num 1, num 0, num 0, num 0, num 2, num 0, num 0, num 0, num 3, num 0, num 0, num 0] 36)).alloc (.cells #[.slice (some ⟨u1.heap.size, 0, none⟩) 3 3] 32)).heap[u1.heap.size]? = some (.cells #[num 1, num 0, num 0, num 0, num 2, num 0, num 0, num 0, num 3, num 0, num 0, num 0] 36 (0, 0)) := heap_alloc2_old ..
  have hb1 : ((u1.alloc (.cells #[num 1, num 0, num 0, num 0, num 2, num 0, num 0, num 0, num 3, num 0, num 0, num 0] 36)).alloc (.cells #[.slice (some ⟨u1.heap.size, 0, none⟩) 3 3] 32)).heap[u1.heap.size + 1]? = some (.cells #[.slice (some ⟨u1.heap.size, 0, none⟩) 3 3] 32 (0, 0)) := heap_alloc2_new ..
  generalize (u1.alloc (.cells #[num 1, num 0, num 0, num 0, num 2, num 0, num 0, num 0, num 3, num 0, num 0, num 0] 36)).alloc (.cells #[.slice (some ⟨u1.heap.size, 0, none⟩) 3 3] 32) = u3 at hg3 hb0 hb1 ⊢
  obtain ⟨fin, hrun, htl, hout⟩ := awakeG_fin
  have hsc : ScrAt u3 (some ⟨u1.heap.size + 1, 0, none⟩) [[(⟨1, 0, 0, 0⟩ : Cal), ⟨2, 0, 0, 0⟩, ⟨3, 0, 0, 0⟩]] := by
    intro i l hl
    match i, hl with
    | 0, hl =>
      obtain rfl := Option.some.inj hl
      refine ⟨_, some ⟨u1.heap.size, 0, none⟩, 3, rfl, (blk_cell hb1 0).trans rfl, fun k c hc => ?_⟩
      match k, hc with
      | 0, hc =>
        obtain rfl := Option.some.inj hc
        exact ⟨_, rfl, (blk_cell hb0 0).trans rfl, (blk_cell hb0 1).trans rfl, (blk_cell hb0 2).trans rfl, (blk_cell hb0 3).trans rfl⟩
      | 1, hc =>
        obtain rfl := Option.some.inj hc
        exact ⟨_, rfl, (blk_cell hb0 4).trans rfl, (blk_cell hb0 5).trans rfl, (blk_cell hb0 6).trans rfl, (blk_cell hb0 7).trans rfl⟩
      | 2, hc =>
        obtain rfl := Option.some.inj hc
        exact ⟨_, rfl, (blk_cell hb0 8).trans rfl, (blk_cell hb0 9).trans rfl, (blk_cell hb0 10).trans rfl, (blk_cell hb0 11).trans rfl⟩
  have hWlt : W < u1.heap.size := blk_lt HF.out.w
  have hsw : ScrW W u3 (some ⟨u1.heap.size + 1, 0, none⟩) [[(⟨1, 0, 0, 0⟩ : Cal), ⟨2, 0, 0, 0⟩, ⟨3, 0, 0, 0⟩]] := by
    intro i l hl
    obtain ⟨ad, A, cp, h1, h2, h3⟩ := hsc i l hl
    match i, hl with
    | 0, hl =>
      obtain rfl := Option.some.inj hl
      cases h1
      have h2' : u3.cell? ⟨u1.heap.size + 1, 0, none⟩ = some (.slice (some ⟨u1.heap.size, 0, none⟩) 3 3) := (blk_cell hb1 0).trans rfl
      have h2'' : u3.cell? ⟨u1.heap.size + 1, 0, none⟩ = some (.slice A 3 cp) := h2
      rw [h2'] at h2''
      cases h2''
      exact ⟨_, _, _, rfl, by show u1.heap.size + 1 ≠ W; omega, fun aa e _ => by cases e; show u1.heap.size ≠ W; omega, h2, h3⟩
  clear hb0 hb1
  refine Wn.callC 6 6 5 rfl (by simp [base]) rfl rfl rfl (by kernel_rfl) ?_
  refine gatePlay46 (K := 30) (f := 10) (scripts := [[(⟨1, 0, 0, 0⟩ : Cal), ⟨2, 0, 0, 0⟩, ⟨3, 0, 0, 0⟩]]) (fin := fin) hN (HF.out.grown hg3) hsw (by decide) (by simp [CalIn, In64]) (fun _ => ⟨hrun, by unfold roomB; omega⟩) (fun h => absurd rfl h) ?_
  intro _ v u4 hpl
  refine Wn.toQ ?_
  show Wn (ctxQ Post (N + 1)) _ _ _
  have hfzq : (ctxQ Post (N + 1)).fz = false := rfl
  obtain ⟨ou, ev, hrows⟩ := hpl.rows (by rw [hout]; decide) (Grown.refl _)
  have hfl : fin.2.length = 1 := by have := congrArg List.length hout; simpa using this
  rw [hfl] at ev
  have HR : Hid (AnsRows u4 (some ⟨ou, 0, none⟩) [[⟨0, 0⟩, ⟨0, 0⟩, ⟨0, 1⟩]]) := by rw [← hout]; exact hrows
  have HG4 : Hid (Grown u u4) := hpl.grown (HG.out.trans hg3) HW.out HB.out
  clear hpl hrun hout hfl hrows hsw hsc hWlt hg3 HF HG HW HB htl
  subst ev
  generalize (⟨ou, 0, none⟩ : Addr) = oa at HR ⊢
  rw [Frame.finish_at]
  refine Wn.span1 7 5 5 (by simp [base]) (by decide) (by decide) (by rw [hfzq]; kernel_rfl) ?_
  simp only [List.take, List.drop]
  go_wp2_with fail
  refine ⟨rfl, ?_⟩
  refine Wn.range_end (n := 0) ?_
  refine Wn.seq (Wn.open ?_)
  refine Wn.span1 0 3 9 (by simp [base]) (by decide) (by decide) (by rw [hfzq]; kernel_rfl) ?_
  simp only [List.take, List.drop]
  go_wp2_with fail
  refine ⟨rfl, ?_⟩
  have hg5 : Grown u4 ((u4.alloc (.cells #[num 1, num 0, num 0, num 0] 36)).alloc (.cells #[.slice (some ⟨u4.heap.size, 0, none⟩) 1 1] 32)) := (Grown.alloc _ _).trans (Grown.alloc _ _)
  have hb1 : ((u4.alloc (.cells #[num 1, num 0, num 0, num 0] 36)).alloc (.cells #[.slice (some ⟨u4.heap.size, 0, none⟩) 1 1] 32)).heap[u4.heap.size + 1]? = some (.cells #[.slice (some ⟨u4.heap.size, 0, none⟩) 1 1] 32 (0, 0)) := heap_alloc2_new ..
  generalize (u4.alloc (.cells #[num 1, num 0, num 0, num 0] 36)).alloc (.cells #[.slice (some ⟨u4.heap.size, 0, none⟩) 1 1] 32) = u5 at hg5 hb1 ⊢
  refine Wn.callC 3 6 5 rfl (by simp [base]) rfl rfl rfl (by kernel_rfl) ?_
  refine Wn.toP (S := S0) (l := list0) ?_
  refine gatePlay46_nil rfl rfl (scripts := [[(⟨1, 0, 0, 0⟩ : Cal)]]) (by decide) (fun i l hl => ?_) ?_
  · match i, hl with
    | 0, hl =>
      obtain rfl := Option.some.inj hl
      exact ⟨_, _, _, rfl, (blk_cell hb1 0).trans rfl⟩
  refine Wn.toQ ?_
  have e1 : nilOf [[(⟨1, 0, 0, 0⟩ : Cal)]] = 1 := by decide
  rw [e1]
  have HG5 : Hid (Grown u4 u5) := hg5
  clear hg5 hb1 e1
  rw [Frame.finish_at]
  refine Wn.span1 4 5 5 (by simp [base]) (by decide) (by decide) (by rw [hfzq]; kernel_rfl) ?_
  simp only [List.take, List.drop]
  go_wp2_with fail
  refine ⟨rfl, ?_⟩
  refine Wn.range_end (n := 0) ?_
  refine Wn.seq (Wn.open ?_)
  refine Wn.callC 0 2 1 rfl (by simp [base]) rfl rfl rfl (by kernel_rfl) ?_
  refine Wn.toP (S := S0) (l := list0) ?_
  refine turnFree21 rfl ?_
  intro T u6 hT hg6 hTN
  refine Wn.toQ ?_
  rw [Frame.finish_at]
  refine Wn.span1 1 1 1 (by simp [base]) (by decide) (by decide) (by rw [hfzq]; kernel_rfl) ?_
  simp only [List.take, List.drop]
  go_wp2_with fail
  refine ⟨rfl, ?_⟩
  refine Wn.range_end (n := 0) ?_
  refine Wn.seq (Wn.open ?_)
  refine Wn.callC 0 2 1 rfl (by simp [base]) rfl rfl rfl (by kernel_rfl) ?_
  refine Wn.toP (S := S0) (l := list0) ?_
  refine gateNew68_nil rfl ?_
  intro b gb u7 hb7 hgb7 hg7 hbN hgbN
  refine Wn.toQ ?_
  rw [Frame.finish_at]
  have hGA : GAt T b gb 0 u7 := by
    obtain ⟨c, t1, t2⟩ := hT
    exact ⟨⟨c, (hg7.blk _ (blk_lt t1)).trans t1, t2⟩, hb7, hgb7⟩
  have HGA : Hid (GAt T b gb 0 u7) := hGA
  have HG7 : Hid (Grown u4 u7) := (HG5.out.trans hg6).trans hg7
  have HBN : Hid (u4.heap.size ≤ b) := Nat.le_trans (Nat.le_trans HG5.out.size hg6.size) hbN
  clear hT hg6 hTN hb7 hgb7 hg7 hbN hgbN hGA HG5
  refine Wn.span1 1 1 1 (by simp [base]) (by decide) (by decide) (by rw [hfzq]; kernel_rfl) ?_
  simp only [List.take, List.drop]
  go_wp2_with fail
  refine ⟨rfl, ?_⟩
  refine Wn.range_end (n := 0) ?_
  obtain ⟨ad, Ai, ci, ea, q0, _, hA⟩ := (HR.out.move HG7.out) 0 _ rfl
  cases ea
  have q0 : u7.cell? oa = some (.slice Ai 3 ci) := q0
  have HA : Hid (∀ (k : Nat) (a : Ans), ([⟨0, 0⟩, ⟨0, 0⟩, ⟨0, 1⟩] : List Ans)[k]? = some a → ∃ bd, Ai = some bd ∧ u7.cell? (bd.add (k * 2)) = some (num a.code) ∧ u7.cell? ⟨(bd.add (k * 2)).block, (bd.add (k * 2)).off + 1, none⟩ = some (num a.val)) := hA
  clear hA
  refine Wn.seq (Wn.seq (Wn.reg (by simp [base]) (by rw [hfzq]; kernel_rfl) ?_))
  go_wp2_with fail
  refine ⟨rfl, ?_⟩
  refine Wn.cond rfl ?_
  simp only [Bool.false_eq_true, if_false]
  clear q0
  refine Wn.skip (Wn.seq (Wn.open ?_))
  refine Wn.span1 0 2 4 (by simp [base]) (by decide) (by decide) (by rw [hfzq]; kernel_rfl) ?_
  simp only [List.take, List.drop]
  go_wp2_with fail
  refine ⟨rfl, ?_⟩
  refine Wn.callC 2 2 1 rfl (by simp [base]) rfl rfl rfl (by kernel_rfl) ?_
  refine enter_call HGA.out (by unfold In64; omega) (e := true) (v' := 2) (by decide) (by simp; unfold wrap64; omega) ?_
  intro u8 h8 k8
  rw [Frame.finish_at]
  simp only [if_true]
  refine Wn.span1 3 1 1 (by simp [base]) (by decide) (by decide) (by rw [hfzq]; kernel_rfl) ?_
  simp only [List.take, List.drop]
  go_wp2_with fail
  refine ⟨rfl, ?_⟩
  refine Wn.range_end (n := 0) ?_
  refine Wn.seq (Wn.open ?_)
  refine Wn.span1 0 2 4 (by simp [base]) (by decide) (by decide) (by rw [hfzq]; kernel_rfl) ?_
  simp only [List.take, List.drop]
  go_wp2_with fail
  refine ⟨rfl, ?_⟩
  refine Wn.callC 2 2 1 rfl (by simp [base]) rfl rfl rfl (by kernel_rfl) ?_
  refine leave_call h8 (by unfold In64; omega) (e := true) (v' := 0) (by decide) (by simp; unfold wrap64; omega) ?_
  intro u9 h9 k9
  rw [Frame.finish_at]
  simp only [if_true]
  refine Wn.span1 3 1 1 (by simp [base]) (by decide) (by decide) (by rw [hfzq]; kernel_rfl) ?_
  simp only [List.take, List.drop]
  go_wp2_with fail
  refine ⟨rfl, ?_⟩
  refine Wn.range_end (n := 0) ?_
  refine Wn.seq (Wn.open ?_)
  refine Wn.span1 0 2 8 (by simp [base]) (by decide) (by decide) (by rw [hfzq]; kernel_rfl) ?_
  simp only [List.take, List.drop]
  go_wp2_with fail
  refine ⟨rfl, ?_⟩
  refine Wn.callC 2 6 5 rfl (by simp [base]) rfl rfl rfl (by kernel_rfl) ?_
  refine shut_call h9 ?_
  intro u10 h10 k10
  rw [Frame.finish_at]
  refine Wn.span1 3 5 5 (by simp [base]) (by decide) (by decide) (by rw [hfzq]; kernel_rfl) ?_
  simp only [List.take, List.drop]
  go_wp2_with fail
  refine ⟨rfl, ?_⟩
  refine Wn.range_end (n := 0) ?_
  refine Wn.seq (Wn.open ?_)
  refine Wn.span1 0 2 4 (by simp [base]) (by decide) (by decide) (by rw [hfzq]; kernel_rfl) ?_
  simp only [List.take, List.drop]
  go_wp2_with fail
  refine ⟨rfl, ?_⟩
  refine Wn.callC 2 2 1 rfl (by simp [base]) rfl rfl rfl (by kernel_rfl) ?_
  refine enter_call h10 (by unfold In64; omega) (e := false) (v' := 1) (by decide) (by simp) ?_
  intro u11 h11 k11
  rw [Frame.finish_at]
  simp only [Bool.false_eq_true, if_false]
  refine Wn.span1 3 1 1 (by simp [base]) (by decide) (by decide) (by rw [hfzq]; kernel_rfl) ?_
  simp only [List.take, List.drop]
  go_wp2_with fail
  refine ⟨rfl, ?_⟩
  refine Wn.range_end (n := 0) ?_
  refine Wn.seq (Wn.open ?_)
  refine Wn.span1 0 2 4 (by simp [base]) (by decide) (by decide) (by rw [hfzq]; kernel_rfl) ?_
  simp only [List.take, List.drop]
  go_wp2_with fail
  refine ⟨rfl, ?_⟩
  refine Wn.callC 2 2 1 rfl (by simp [base]) rfl rfl rfl (by kernel_rfl) ?_
  refine leave_call h11 (by unfold In64; omega) (e := false) (v' := 1) (by decide) (by simp) ?_
  intro u12 h12 k12
  rw [Frame.finish_at]
  simp only [Bool.false_eq_true, if_false]
  refine Wn.span1 3 1 1 (by simp [base]) (by decide) (by decide) (by rw [hfzq]; kernel_rfl) ?_
  simp only [List.take, List.drop]
  go_wp2_with fail
  refine ⟨rfl, ?_⟩
  refine Wn.range_end (n := 0) ?_
  have hk : KeptBut b u7 u12 := (((k8.trans k9).trans k10).trans k11).trans k12
  have hg12 : Grown u4 u12 := ⟨fun x hx => (hk.1 x (Nat.lt_of_lt_of_le hx HG7.out.size) (by have := HBN.out; omega)).trans (HG7.out.blk x hx), Nat.le_trans HG7.out.size hk.2.1, hk.2.2.1.trans HG7.out.os, hk.2.2.2.trans HG7.out.out⟩
  obtain ⟨ad, Ai2, ci2, ea, q0, _, hA⟩ := (HR.out.move hg12) 0 _ rfl
  cases ea
  have q0 : u12.cell? oa = some (.slice Ai2 3 ci2) := q0
  obtain ⟨bd, rfl, q1, q2⟩ := hA 2 _ rfl
  have q1 : u12.cell? ⟨bd.block, bd.off + 4, none⟩ = some (num 0) := q1
  have q2 : u12.cell? ⟨bd.block, bd.off + 4 + 1, none⟩ = some (num 1) := q2
  have HGE : Hid (Grown u u12) := HG4.out.trans hg12
  clear hA hg12 hk k8 k9 k10 k11 k12 h8 h9 h10 h11 h12 HA HR HG4 HG7 HBN HGA
  refine Wn.seq (Wn.reg (by simp [base]) (by rw [hfzq]; kernel_rfl) ?_)
  go_wp2_with fail
  refine ⟨rfl, ?_⟩
  refine Wn.seq (Wn.reg (by simp [base]) (by rw [hfzq]; kernel_rfl) ?_)
  go_wp2_with fail
  refine ⟨rfl, ?_⟩
  refine Wn.ret ?_
  refine Wn.back rfl rfl Try.func45 (results_tmp rfl _ _ _) ?_
  exact hn.out u12 HGE.out
end
end Go.Proofs.Ytoabkcalphpkhaa

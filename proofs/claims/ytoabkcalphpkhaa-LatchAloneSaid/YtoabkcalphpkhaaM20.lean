/- Merged: Ends, Free. -/
import Derived.Test.YtoabkcalphpkhaaM19
import Derived.Conc.LeavingOf
/- The whole machine's run from a walk of the one goroutine it starts with. -/
namespace Go.Proofs.Ytoabkcalphpkhaa
open Go Go.Conc Go.RowKit
set_option linter.unusedVariables false
set_option linter.unusedSimpArgs false
set_option linter.unusedSectionVars false
set_option maxRecDepth 100000

section
variable {C : Ctx Try.prog} {u : World} {b : Frame} {a : Act} {todo : List Item}
theorem Wn.finish {fn : Func} {v : Value} (hne : (2 : Nat) ≠ b.fn) (hk : b.kind = .normal) (hd : a.defers = []) (hf : Try.prog.funcs[b.fn]? = some fn) (hr : ∀ w, (results fn a.tmps).runT Try.prog w #[] = (.ok v w, #[])) (h0 : C.h = 0) (hI : ∀ i, C.I i = none)
    (hpost : ∀ w, Like C.Gd w u → C.Post v w) : Wn C { b.at a todo with mode := .returning } [] u := by
  intro w hl hfl
  rw [h0]
  refine Win.done rfl hI (fun _ => v) (fun _ => #[]) (fun d => ?_) (fun d e h => by simp at h) (fun d => hpost _ (like_w hl w.tape d))
  have h1 := hr (w.at d)
  simp only [stepG, unwind, gr, Frame.at, hd, hf, h1, hk, doReturn]
  simp [GStep.after, seen_none, hne]

theorem runT_results1 {fn : Func} {t : Tmp} (h : fn.results = #[.tmp t]) (tmps : Array Value) (w : World) : (results fn tmps).runT Try.prog w #[] = (.ok (tmps.getD t undef) w, #[]) := by
  unfold results
  rw [h]
  simp

/-- From the walk to the run. -/
theorem ends_of_wn {f : FuncId} {args : Array Value} {W : World} {Post : Value → World → Prop} (h : Wn (ctxQ Post 1) (Frame.enter Try.prog f args .normal) [] W) :
    ∃ M last o w' t', runNT Try.prog (M + 1) (solo (G (Frame.enter Try.prog f args .normal) []) W) #[] = (.ended o w', t') ∧ runN Try.prog M (solo (G (Frame.enter Try.prog f args .normal) []) W) = .next last ∧ step Try.prog last = .ended o w' ∧ Conc.Good Try.prog Post last o w' t' := by
  have hW : Win Try.prog Post 1 0 (gr (Frame.enter Try.prog f args .normal) []) W (fun _ => none) := h W (Like.refl W) ⟨fun i s h => (by cases h), fun i s h => (by cases h)⟩
  have := hW.ends #[gr (Frame.enter Try.prog f args .normal) []] none #[] (fun _ => 0) W.drawn ⟨rfl, fun i g hi hg => ?_, ⟨fun i s h => (by cases h), fun i s h => (by cases h)⟩, fun i j s s' h => (by cases h), rfl, Nat.zero_lt_one, ?_, fun j hj => ⟨?_, rfl⟩⟩ rfl
  · exact this
  · exfalso
    have := (Array.getElem?_eq_some_iff.1 hg).1
    simp at this
    omega
  · exact pastR_nil.congr fun g => rfl
  · rfl
end
end Go.Proofs.Ytoabkcalphpkhaa

/- One free thread, of no world: what the layers ask of it. (Printed by gen_free.py.) -/
namespace Go.Proofs.Ytoabkcalphpkhaa
open Go Go.Conc Go.RowKit
open Go.Proofs.YtoabkcalphpkhaaW.PrintWords Go.Proofs.YtoabkcalphpkhaaW.PrintLast Go.Proofs.YtoabkcalphpkhaaW.PrintMore
set_option linter.unusedVariables false
set_option linter.unusedSimpArgs false
set_option linter.unusedSectionVars false
set_option maxRecDepth 100000

def updV (vals : Nat → Int) (c : Nat) (v : Int) : Nat → Int := fun x => if x = c then v else vals x
/-- What a free thread does, alone: it never waits. -/
def freeP : Proc → (Nat → Int) → Option ((Nat → Int) × List Ans)
  | .ret out, vals => some (vals, out)
  | .note _ _ _ k, vals => freeP k vals
  | .step c _ f k, vals => freeP (k (vals c)) (updV vals c (f (vals c)))
  | .await _ _, _ => none
  | .bad, _ => none
def freeS : Stat → (Nat → Int) → Option ((Nat → Int) × List Ans)
  | .go p, vals => freeP p vals
  | .mid c _ f k, vals => freeP (k (vals c)) (updV vals c (f (vals c)))
  | .did _ _ _ _ k, vals => freeP k vals
  | .woke _ _, _ => none
theorem updV_same (vals : Nat → Int) (c : Nat) : updV vals c (vals c) = vals := by
  funext x
  unfold updV
  split
  · rename_i h; rw [h]
  · rfl

/-- A free thread; its cells. -/
structure FreeAt (T cn : Nat) (cb : Nat → Nat) (rb : Nat → Option Obj) (r : (Nat → Int) × List Ans) (o0 : Os) (p0 : Array (Nat × ByteArray)) (p : Stat) (F : Nat → Prop) (u : World) : Prop where
  os : u.os = o0
  outp : u.output = p0
  t : ∃ c : Array Value, u.heap[T]? = some (.cells c 92 (0, 0)) ∧ c[0]? = some (.pointer none)
  tF : ¬ F T
  cells : ∃ vals : Nat → Int, (∀ c, c < cn → u.heap[cb c]? = some (.cells (cCells 0 (vals c)) 105 (0, 0)) ∧ In64 (vals c)) ∧ freeS p vals = some r
  cF : ∀ c, c < cn → ¬ F (cb c)
  ro : ∀ b o, rb b = some o → u.heap[b]? = some o
  roF : ∀ b o, rb b = some o → ¬ F b
  roC : ∀ b o, rb b = some o → ∀ c, c < cn → b ≠ cb c
  inj : ∀ c d, c < cn → d < cn → cb c = cb d → c = d
  lt : ∀ b, F b → b < u.heap.size

section
variable {T cn : Nat} {cb : Nat → Nat} {ro : Nat → Option Obj} {r : (Nat → Int) × List Ans} {p : Stat} {F : Nat → Prop} {u : World} {C : Ctx Try.prog} {fr : Frame} {cs : List Frame}
theorem free62 (hfz : C.fz = true) (ht : ∃ c : Array Value, u.heap[T]? = some (.cells c 92 (0, 0)) ∧ c[0]? = some (.pointer none)) {x y : Value} (hn : Wn C (fr.finish (.tuple #[])) cs u) : Wn C (Frame.enter Try.prog 62 #[ptr T, x, y] .normal) (fr :: cs) u := by
  obtain ⟨c, h1, h2⟩ := ht
  have q0 : u.cell? ⟨T, 0, none⟩ = some (.pointer none) := (blk_cell h1 0).trans h2
  refine Wn.body Try.func62 rfl ?_
  simp only [Try.ntmps62, List.size_toArray, List.length_cons, List.length_nil, Nat.reduceAdd, Nat.reduceSub, Array.replicate_succ, Array.replicate_zero, List.push_toArray, List.append_toArray, List.nil_append, List.cons_append]
  refine Wn.seq (Wn.reg (by simp [base]) (by rw [hfz]; kernel_rfl) ?_)
  go_wp2_with fail
  refine ⟨rfl, ?_⟩
  refine Wn.cond rfl ?_
  simp only [Bool.false_eq_true, if_false]
  refine Wn.skip (Wn.fall ?_)
  refine Wn.back rfl rfl Try.func62 (results_none rfl _ _ _) ?_
  exact hn
theorem free63 (hfz : C.fz = true) (ht : ∃ c : Array Value, u.heap[T]? = some (.cells c 92 (0, 0)) ∧ c[0]? = some (.pointer none)) {x y : Value} (hn : Wn C (fr.finish (.tuple #[])) cs u) : Wn C (Frame.enter Try.prog 63 #[ptr T, x, y] .normal) (fr :: cs) u := by
  obtain ⟨c, h1, h2⟩ := ht
  have q0 : u.cell? ⟨T, 0, none⟩ = some (.pointer none) := (blk_cell h1 0).trans h2
  refine Wn.body Try.func63 rfl ?_
  simp only [Try.ntmps63, List.size_toArray, List.length_cons, List.length_nil, Nat.reduceAdd, Nat.reduceSub, Array.replicate_succ, Array.replicate_zero, List.push_toArray, List.append_toArray, List.nil_append, List.cons_append]
  refine Wn.seq (Wn.seq (Wn.reg (by simp [base]) (by rw [hfz]; kernel_rfl) ?_))
  go_wp2_with fail
  refine ⟨rfl, ?_⟩
  refine Wn.cond rfl ?_
  simp only [if_true]
  refine Wn.ret ?_
  refine Wn.back rfl rfl Try.func63 (results_none rfl _ _ _) ?_
  exact hn
theorem free95 (hfz : C.fz = true) (ht : ∃ c : Array Value, u.heap[T]? = some (.cells c 92 (0, 0)) ∧ c[0]? = some (.pointer none)) {x y z : Value} (hn : Wn C (fr.finish (.tuple #[])) cs u) : Wn C (Frame.enter Try.prog 95 #[ptr T, x, y, z] .normal) (fr :: cs) u := by
  obtain ⟨c, h1, h2⟩ := ht
  have q0 : u.cell? ⟨T, 0, none⟩ = some (.pointer none) := (blk_cell h1 0).trans h2
  refine Wn.body Try.func95 rfl ?_
  simp only [Try.ntmps95, List.size_toArray, List.length_cons, List.length_nil, Nat.reduceAdd, Nat.reduceSub, Array.replicate_succ, Array.replicate_zero, List.push_toArray, List.append_toArray, List.nil_append, List.cons_append]
  refine Wn.seq (Wn.reg (by simp [base]) (by rw [hfz]; kernel_rfl) ?_)
  go_wp2_with fail
  refine ⟨rfl, ?_⟩
  refine Wn.cond rfl ?_
  simp only [Bool.false_eq_true, if_false]
  refine Wn.skip (Wn.fall ?_)
  refine Wn.back rfl rfl Try.func95 (results_none rfl _ _ _) ?_
  exact hn
end

def freeMode (C0 : Ctx Try.prog) (hfz : C0.fz = true) (hS : C0.S = S0) (T cn : Nat) (cb : Nat → Nat) (ro : Nat → Option Obj) (r : (Nat → Int) × List Ans) (o0 : Os) (p0 : Array (Nat × ByteArray)) : Mode where
  T := T
  cn := cn
  cid _ := 0
  cb := cb
  ro := ro
  At p F u C := C = C0 ∧ FreeAt T cn cb ro r o0 p0 p F u
  plain := by rintro p F u C ⟨rfl, h⟩; exact ⟨hfz, hS⟩
  nobad := by
    rintro F u C ⟨rfl, h⟩
    obtain ⟨vals, _, h⟩ := h.cells
    cases h
  on := by rintro p F u C ⟨rfl, h⟩ τ d; exact ⟨rfl, ⟨h.os, h.outp, h.t, h.tF, h.cells, h.cF, h.ro, h.roF, h.roC, h.inj, h.lt⟩⟩
  less := by
    rintro p F F' u C ⟨rfl, h⟩ hF
    exact ⟨rfl, ⟨h.os, h.outp, h.t, fun h' => h.tF (hF _ h'), h.cells, fun c hc h' => h.cF c hc (hF _ h'), h.ro, fun b o ho h' => h.roF b o ho (hF _ h'), h.roC, h.inj, fun b hb => h.lt b (hF b hb)⟩⟩
  alloc := by
    rintro p F u C ⟨rfl, h⟩ o
    have hk : ∀ {b o'}, u.heap[b]? = some o' → (u.alloc o).heap[b]? = some o' := fun hb => (heap_alloc (blk_lt hb)).trans hb
    obtain ⟨c0, t1, t2⟩ := h.t
    obtain ⟨vals, c1, c2⟩ := h.cells
    exact ⟨rfl, ⟨h.os, h.outp, ⟨c0, hk t1, t2⟩, fun h' => h'.elim h.tF fun e => by have := blk_lt t1; omega, ⟨vals, fun c hc => ⟨hk (c1 c hc).1, (c1 c hc).2⟩, c2⟩, fun c hc h' => h'.elim (h.cF c hc) fun e => by have := blk_lt (c1 c hc).1; omega, fun b o' ho => hk (h.ro b o' ho), fun b o' ho h' => h'.elim (h.roF b o' ho) fun e => by have := blk_lt (h.ro b o' ho); omega, h.roC, h.inj,
      fun b hb => by rw [size_alloc]; rcases hb with hb | hb; · have := h.lt b hb; omega
                     · omega⟩⟩
  set := by
    rintro p F u C ⟨rfl, h⟩ a v ha
    have hk : ∀ {b}, ¬ F b → (u.setCell a v).heap[b]? = u.heap[b]? := fun hb => blk_set_ne (a := a) (fun e => hb (by rw [e]; exact ha)) v
    obtain ⟨c0, t1, t2⟩ := h.t
    obtain ⟨vals, c1, c2⟩ := h.cells
    exact ⟨rfl, ⟨h.os, h.outp, ⟨c0, (hk h.tF).trans t1, t2⟩, h.tF, ⟨vals, fun c hc => ⟨(hk (h.cF c hc)).trans (c1 c hc).1, (c1 c hc).2⟩, c2⟩, h.cF, fun b o ho => (hk (h.roF b o ho)).trans (h.ro b o ho), h.roF, h.roC, h.inj, fun b hb => by rw [size_set]; exact h.lt b hb⟩⟩
  grow := by
    rintro p F u u' C ⟨rfl, h⟩ hb hs hos hout
    have hk : ∀ {b o'}, u.heap[b]? = some o' → ¬ F b → u'.heap[b]? = some o' := fun h1 h2 => (hb _ (blk_lt h1) h2).trans h1
    obtain ⟨c0, t1, t2⟩ := h.t
    obtain ⟨vals, c1, c2⟩ := h.cells
    exact ⟨rfl, ⟨hos.trans h.os, hout.trans h.outp, ⟨c0, hk t1 h.tF, t2⟩, fun h' => h'.elim h.tF fun e => by have := blk_lt t1; omega, ⟨vals, fun c hc => ⟨hk (c1 c hc).1 (h.cF c hc), (c1 c hc).2⟩, c2⟩, fun c hc h' => h'.elim (h.cF c hc) fun e => by have := blk_lt (c1 c hc).1; omega, fun b o' ho => hk (h.ro b o' ho) (h.roF b o' ho), fun b o' ho h' => h'.elim (h.roF b o' ho) fun e => by have := blk_lt (h.ro b o' ho); omega, h.roC, h.inj,
      fun b hb => hb.elim (fun hb => Nat.lt_of_lt_of_le (h.lt b hb) hs) fun hb => hb.2⟩⟩
  lt := by rintro p F u C ⟨rfl, h⟩ b hb; exact h.lt b hb
  rof := by rintro p F u C ⟨rfl, h⟩ b o hb; exact h.ro b o hb
  cell := by
    rintro p F u C ⟨rfl, h⟩ c hc
    obtain ⟨vals, c1, c2⟩ := h.cells
    exact ⟨vals c, (c1 c hc).1, (c1 c hc).2, h.cF c hc⟩
  put := by
    rintro c op f k F u C ⟨rfl, h⟩ hc
    obtain ⟨vals, c1, c2⟩ := h.cells
    have hcc := (c1 c hc).1
    refine ⟨vals c, hcc, (c1 c hc).2, fun hf => ⟨rfl, ?_⟩, fun hf => ⟨rfl, ⟨h.os, h.outp, h.t, h.tF, ⟨vals, c1, ?_⟩, h.cF, h.ro, h.roF, h.roC, h.inj, h.lt⟩⟩⟩
    · have hk : ∀ {b}, b ≠ cb c → (u.setCell ⟨cb c, 1, none⟩ (num (f (vals c)))).heap[b]? = u.heap[b]? := fun hb => blk_set_ne (a := ⟨cb c, 1, none⟩) hb _
      obtain ⟨c0, t1, t2⟩ := h.t
      refine ⟨h.os, h.outp, ⟨c0, (hk (ne_of_ty t1 hcc (by decide))).trans t1, t2⟩, h.tF, ⟨updV vals c (f (vals c)), fun d hd => ?_, c2⟩, h.cF, fun b o ho => (hk (h.roC b o ho c hc)).trans (h.ro b o ho), h.roF, h.roC, h.inj, fun b hb => by rw [size_set]; exact h.lt b hb⟩
      unfold updV
      by_cases e : d = c
      · subst e
        simp only [if_true]
        exact ⟨by rw [blk_set hcc]; rfl, hf⟩
      · simp only [if_neg e]
        exact ⟨(hk (fun e' => e (h.inj d c hd hc e'))).trans (c1 d hd).1, (c1 d hd).2⟩
    · have : freeS (.mid c op f k) vals = freeP (k (vals c)) (updV vals c (f (vals c))) := rfl
      rw [this, hf, updV_same] at c2
      exact c2
  turn := by
    rintro c op f k F u C ⟨rfl, h⟩ fr cs hn
    exact free62 hfz h.t (hn F u _ ⟨rfl, ⟨h.os, h.outp, h.t, h.tF, h.cells, h.cF, h.ro, h.roF, h.roC, h.inj, h.lt⟩⟩ (fun _ h => h) (Keep.refl _ _))
  did := by
    rintro c op old new k F u C ⟨rfl, h⟩ hc fr cs hn
    exact free63 hfz h.t (hn u ⟨rfl, ⟨h.os, h.outp, h.t, h.tF, h.cells, h.cF, h.ro, h.roF, h.roC, h.inj, h.lt⟩⟩ (Keep.refl _ _))
  await := by
    rintro c k F u C ⟨rfl, h⟩
    obtain ⟨vals, _, h⟩ := h.cells
    cases h
  note := by
    rintro op a b k F u C ⟨rfl, h⟩ fr cs hn
    exact free95 hfz h.t (hn u ⟨rfl, ⟨h.os, h.outp, h.t, h.tF, h.cells, h.cF, h.ro, h.roF, h.roC, h.inj, h.lt⟩⟩ (Keep.refl _ _))
end Go.Proofs.Ytoabkcalphpkhaa

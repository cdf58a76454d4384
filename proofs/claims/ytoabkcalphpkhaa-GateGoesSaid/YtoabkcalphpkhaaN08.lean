/- Merged: Calc, Calls, Span, Yield, Frames. -/
import Derived.Test.YtoabkcalphpkhaaN07
import Derived.Tactics
import Derived.Conc.WalkWords
/- The holder's code, walked in the world in which the cells of the seats are frozen: what the lone machine's laws tell of plain code holds of it. No program in sight. -/
namespace Go.Proofs.Ytoabkcalphpkhaa
open Go Go.Conc
set_option linter.unusedVariables false
set_option linter.unusedSimpArgs false
set_option linter.unusedSectionVars false

/-- Who holds the baton, beside whom; which cells are frozen in the world of the walk; which functions are plain. -/
structure Ctx (P : Program) where
  Post : Value → World → Prop
  N : Nat
  h : Nat
  I : Seats
  Gd : Guard
  fz : Bool
  S : FuncId → Bool
  list : ListOk P fz S
  thaw : fz = false → ∀ b, Gd b = none
  cover : ∀ i s, I i = some s → ∀ p ∈ s.cells, Gd.has p.1

/-- From here the holder comes to the end. -/
def Wn {P : Program} (C : Ctx P) (fr : Frame) (cs : List Frame) (u : World) : Prop := ∀ w, Like C.Gd w u → Floor C.I w → Win P C.Post C.N C.h (gr fr cs) w C.I

section
variable {P : Program} {C : Ctx P} {fr : Frame} {cs : List Frame} {u w : World}

theorem like_on {Gd : Guard} (h : Like Gd w u) (τ σ : Nat → Question → Nat) (d e : Nat) : Like Gd (w.on τ d) (u.on σ e) := h.on τ σ d e
theorem like_w {Gd : Guard} (h : Like Gd w u) (τ : Nat → Question → Nat) (d : Nat) : Like Gd (w.on τ d) u := ⟨h.os, h.out, h.size, h.blk, h.grd⟩
theorem like_u {Gd : Guard} (h : Like Gd w u) (τ : Nat → Question → Nat) (d : Nat) : Like Gd w (u.on τ d) := ⟨h.os, h.out, h.size, h.blk, h.grd⟩
theorem like_u' {Gd : Guard} {τ : Nat → Question → Nat} {d : Nat} (h : Like Gd w (u.on τ d)) : Like Gd w u := ⟨h.os, h.out, h.size, h.blk, h.grd⟩
theorem Wn.on (h : Wn C fr cs u) (τ : Nat → Question → Nat) (d : Nat) : Wn C fr cs (u.on τ d) := fun w hl hf => h w (like_u' hl) hf
theorem floor_on {I : Seats} (h : Floor I w) (τ : Nat → Question → Nat) (d : Nat) : Floor I (w.on τ d) := ⟨h.reads, h.chans⟩
theorem keeps_floor {I : Seats} {Gd : Guard} {w' : World} (hc : ∀ i s, I i = some s → ∀ p ∈ s.cells, Gd.has p.1) (hk : Keeps Gd w w') (h : Floor I w) : Floor I w' := by
  refine ⟨fun i s hi p hp => (hk.still _ (hc i s hi p hp)).trans (h.reads i s hi p hp), fun i s hi => ?_⟩
  obtain ⟨k, hk'⟩ := h.chans i s hi
  exact ⟨k, hk.objs _ _ hk' (fun c e f he => by cases he)⟩
theorem evH_of {I : Seats} {Gd : Guard} (hc : ∀ i s, I i = some s → ∀ p ∈ s.cells, Gd.has p.1) {e : Event} (he : EvOk Gd e) : EvH I e := by
  obtain ⟨loc, wr, sy⟩ := e
  rcases he with ⟨a, wr', sy', h, hw⟩ | ⟨r, sy', h⟩ | h | ⟨f, h⟩
  · cases h
    refine ⟨fun x hx hxw i s hi hS => ?_, by simp, by simp⟩
    obtain ⟨p, hp, hpl⟩ := hS
    have h1 : (MemAct.ofEvent ⟨.cell a, wr, sy⟩).touch? = some ⟨.cell a, wr, if sy then .atomic else .plain⟩ := rfl
    rw [h1] at hx
    obtain rfl := Option.some.inj hx
    cases hpl
    exact hw hxw (hc i s hi p hp)
  · cases h
    refine ⟨fun x hx hxw i s hi hS => ?_, by simp, by simp⟩
    obtain ⟨p, hp, hpl⟩ := hS
    cases sy <;> simp [MemAct.ofEvent, MemAct.touch?] at hx <;> (subst hx; cases hpl)
  · simp only at h
    subst h
    exact ⟨fun x hx => by simp [MemAct.ofEvent, MemAct.touch?] at hx, by simp, by simp⟩
  · simp only at h
    subst h
    exact ⟨fun x hx => by simp [MemAct.ofEvent, MemAct.touch?] at hx, by simp, by simp⟩

/-- A step of the holder's, whatever is drawn ahead of it. -/
theorem Win.go {P : Program} {Post : Value → World → Prop} {N h : Nat} {g : Goroutine} {w : World} {I : Seats} (hrun : g.status = .running)
    (hd : ∀ d, ∃ g' w' es, stepG P (h == 0) g (w.at d) = .go g' w' es ∧ (∀ e ∈ es, EvH I e) ∧ Floor I w' ∧ Win P Post N h g' w' I) : Win P Post N h g w I :=
  Win.step hrun (fun d => Classical.choose (hd d)) (fun d => Classical.choose (Classical.choose_spec (hd d))) (fun d => Classical.choose (Classical.choose_spec (Classical.choose_spec (hd d))))
    (fun d => (Classical.choose_spec (Classical.choose_spec (Classical.choose_spec (hd d)))).1) (fun d => (Classical.choose_spec (Classical.choose_spec (Classical.choose_spec (hd d)))).2.1)
    (fun d => (Classical.choose_spec (Classical.choose_spec (Classical.choose_spec (hd d)))).2.2.1) (fun d => (Classical.choose_spec (Classical.choose_spec (Classical.choose_spec (hd d)))).2.2.2)

/-- A move of control. -/
theorem Wn.ctl {fr' : Frame} {cs' : List Frame} (h : ∀ main w, stepG P main (gr fr cs) w = .go (gr fr' cs') w) (hn : Wn C fr' cs' u) : Wn C fr cs u := fun w hl hf =>
  Win.go rfl fun d => ⟨_, _, _, h _ _, by simp, floor_at d hf, hn _ (like_w hl w.tape d) (floor_at d hf)⟩

section moves
variable {b : Frame} {a : Act} {k : List Item}
theorem Wn.skip (h : Wn C (b.at a k) cs u) : Wn C (b.at a (.code .skip :: k)) cs u := .ctl (fun _ _ => stepG_skip) h
theorem Wn.label {l : Nat} (h : Wn C (b.at a k) cs u) : Wn C (b.at a (.code (.label l) :: k)) cs u := .ctl (fun _ _ => stepG_label) h
theorem Wn.inBlock {id : Nat} (h : Wn C (b.at a k) cs u) : Wn C (b.at a (.inBlock id :: k)) cs u := .ctl (fun _ _ => stepG_inBlock) h
theorem Wn.seq {x y : Code} (h : Wn C (b.at a (.code x :: .code y :: k)) cs u) : Wn C (b.at a (.code (.seq x y) :: k)) cs u := .ctl (fun _ _ => stepG_seq) h
theorem Wn.cond {c : Operand} {x y : Code} {t : Bool} (hc : a.eval c = .bool t) (h : Wn C (b.at a (.code (if t then x else y) :: k)) cs u) : Wn C (b.at a (.code (.cond c x y) :: k)) cs u := .ctl (fun _ _ => stepG_cond hc) h
theorem Wn.block {id : Nat} {c : Code} (h : Wn C (b.at a (.code c :: .inBlock id :: k)) cs u) : Wn C (b.at a (.code (.block id c) :: k)) cs u := .ctl (fun _ _ => stepG_block) h
theorem Wn.loop {c : Code} (h : Wn C (b.at a (.code c :: .inLoop c :: k)) cs u) : Wn C (b.at a (.code (.loop c) :: k)) cs u := .ctl (fun _ _ => stepG_loop) h
theorem Wn.inLoop {c : Code} (h : Wn C (b.at a (.code c :: .inLoop c :: k)) cs u) : Wn C (b.at a (.inLoop c :: k)) cs u := .ctl (fun _ _ => stepG_inLoop) h
theorem Wn.exit {id : Nat} {k' : List Item} (hk : exitTo id k = some k') (h : Wn C (b.at a k') cs u) : Wn C (b.at a (.code (.exit id) :: k)) cs u := .ctl (fun _ _ => stepG_exit hk) h
theorem Wn.ret (h : Wn C { b.at a (.code .ret :: k) with mode := .returning } cs u) : Wn C (b.at a (.code .ret :: k)) cs u := .ctl (fun _ _ => stepG_ret') h
theorem Wn.fall (h : Wn C { b.at a [] with mode := .returning } cs u) : Wn C (b.at a []) cs u := .ctl (fun _ _ => stepG_end) h
theorem Wn.region {id : Nat} {ops : Array Oper} (h : Wn C (b.at a (.inRegion ops (List.range ops.size) :: k)) cs u) : Wn C (b.at a (.code (.region id ops false) :: k)) cs u := .ctl (fun _ _ => stepG_region) h
theorem Wn.region_end {ops : Array Oper} (h : Wn C (b.at a k) cs u) : Wn C (b.at a (.inRegion ops [] :: k)) cs u := .ctl (fun _ _ => stepG_region_end) h
end moves

/-- From the lone run's bar: plain code that comes to its return. -/
theorem wn_of_bars {R : Frame → World → Prop} {X : List Frame} (hB : Bars P C.fz C.S R fr X u) (hR : ∀ fr' u', R fr' u' → fr'.mode = .returning → Wn C fr' cs u') : Wn C fr (X ++ cs) u := by
  induction hB with
  | done hm h => exact hR _ _ h hm
  | @more fr X u hok hnd hl h ih =>
    intro w hlk hf
    refine Win.go rfl fun d => ?_
    rcases step_plain (τ := w.tape) (d := d) C.list C.thaw hok hnd hlk with hst | hnv
    · obtain ⟨fr', X', m, u', w', es, hok', hl', hk', hes, hw, hu⟩ := hst
      refine ⟨_, _, _, hw w.tape d (C.h == 0) cs (fun _ _ => rfl), fun e he => evH_of C.cover (hes e he), floor_on (keeps_floor C.cover hk' hf) _ _, ?_⟩
      exact ih fr' X' u' w.tape d m hok' (fun τ' d' main cs hj => hu τ' d' main cs hj) _ (like_w hl' _ _) (floor_on (keeps_floor C.cover hk' hf) _ _)
    · exact absurd hnv (hl w.tape d)
end
end Go.Proofs.Ytoabkcalphpkhaa

/- The holder's operations: one by one, by the lone machine's laws; calls of plain functions by their contracts. No program in sight. -/
namespace Go.Proofs.Ytoabkcalphpkhaa
open Go Go.Conc
set_option linter.unusedVariables false
set_option linter.unusedSimpArgs false
set_option linter.unusedSectionVars false

section
variable {P : Program} {C : Ctx P} {fr : Frame} {cs : List Frame} {u w : World}

/-- What draws nothing does the same upon every tape. -/
theorem sim0 {α : Type} {L : α → Prop} {fz : Bool} {Gd : Guard} {s : Sem α} (h : Tame P fz L s) (hG : fz = false → ∀ b, Gd b = none) {a : α} {u' : World} (hl : Like Gd w u) (hr : s.run P u = .ok a u') (hd : u'.drawn = u.drawn) :
    ∃ (w' : World) (es : Array Event), Like Gd w' u' ∧ Keeps Gd w w' ∧ (∀ e ∈ es, EvOk Gd e) ∧ (∀ τ d, s.runT P (w.on τ d) #[] = (.ok a (w'.on τ d), es)) ∧ ∀ τ d, s.run P (u.on τ d) = .ok a (u'.on τ d) := by
  obtain ⟨_, m, u₁, w', es, e1, e2, e3, e4, e5, e6⟩ := h.sim2 hG (τ := u.tape) (d := u.drawn) hl (by rw [on_self]; exact hr)
  have hm : m = 0 := by
    have := congrArg World.drawn e1
    simp only [World.on] at this
    omega
  subst hm
  have hu : ∀ τ d, u'.on τ d = u₁.on τ d := fun τ d => by rw [e1]; rfl
  refine ⟨w', es, ?_, e3, e4, fun τ d => e5 τ d (fun _ hj => by omega), fun τ d => ?_⟩
  · rw [e1]; exact like_u e2 _ _
  · obtain ⟨es', he⟩ := e6 τ d (fun _ hj => by omega)
    rw [← Sem.runT_fst P s (u.on τ d) #[], he, hu]
    rfl

theorem leaving_on {v : Value} (h : fr.leaving P u (.returned v)) (τ : Nat → Question → Nat) (d : Nat) : fr.leaving P (u.on τ d) (.returned v) := by
  obtain ⟨h1, h2, h3, fn, hf, hr⟩ := h
  obtain ⟨_, _, _, _, _, _, h6⟩ := sim0 (tame_results (P := P) (fz := false) fn fr.tmps) (Gd := fun _ => none) (fun _ _ => rfl) (Like.refl u) hr rfl
  exact ⟨h1, h2, h3, fn, hf, h6 τ d⟩

/-- A plain frame hands its result to its caller. -/
theorem Wn.leave {c : Frame} {v : Value} (h : fr.leaving P u (.returned v)) (hn : Wn C (c.finish v) cs u) : Wn C fr (c :: cs) u := by
  intro w hl hf
  obtain ⟨h1, h2, h3, fn, hfn, hr⟩ := h
  refine Win.go rfl fun d => ?_
  obtain ⟨w', es, e1, e2, e3, e4, _⟩ := sim0 (tame_results (P := P) (fz := C.fz) fn fr.tmps) C.thaw hl hr rfl
  have := e4 w.tape d
  refine ⟨gr (c.finish v) cs, w'.on w.tape d, seen P fr.fn es, ?_, fun e he => evH_of C.cover (e3 e (mem_seen he)), floor_on (keeps_floor C.cover e2 hf) _ _, hn _ (like_w e1 _ _) (floor_on (keeps_floor C.cover e2 hf) _ _)⟩
  rw [on_at]
  simp only [stepG, h1, unwind, h2, hfn, this, gr]
  simp [GStep.after, doReturn, h3]

/-- What a plain function is asked. -/
def Told (P : Program) (K : Value → World → Prop) : Ending → World → Prop
  | .returned v, w => K v w
  | _, _ => False

theorem enter_ok {fz : Bool} {S : FuncId → Bool} (hS : ListOk P fz S) {f : FuncId} (hf : S f = true) (args : Array Value) : StOk P fz S (Frame.enter P f args .normal) [] := by
  have hb := hS.bodied f hf
  refine ⟨⟨fun x hx => ?_, rfl, rfl, rfl⟩, .inl rfl, by simp⟩
  simp only [Frame.enter, List.mem_singleton] at hx
  subst hx
  unfold bodied at hb
  cases hq : P.funcs[f]? with
  | none => rw [hq] at hb; cases hb
  | some fnn =>
    rw [hq] at hb
    cases hbd : fnn.body with
    | none => simp [hbd] at hb
    | some c =>
      simp only [Option.bind_some, hbd, Option.getD_some]
      exact hS.code f hf c (by rw [hq]; exact hbd)

theorem comes1_of_calls {f : FuncId} {args : Array Value} {K : Value → World → Prop} {R : Ending → World → Prop} (hR : ∀ e w, R e w → Told P K e w) {τ : Nat → Question → Nat} {d : Nat} (h : Calls P f args (u.on τ d) R) :
    Comes1 P (fun fr' w' => ∃ v, fr'.leaving P w' (.returned v) ∧ K v w') (Frame.enter P f args .normal) [] u τ d := by
  obtain ⟨e, w', fr, hr, hc, _, hl⟩ := h [poison P]
  have hr' := hR e w' hr
  cases e with
  | returned v =>
    obtain ⟨n, hn⟩ := hc
    exact ⟨n, fr, w', hn, hl.1, v, hl, hr'⟩
  | panicked ch => exact hr'.elim
  | outgrown => exact hr'.elim

/-- A plain function, entered. -/
theorem Wn.enter {f : FuncId} (hf : C.S f = true) {args : Array Value} {c : Frame} {K : Value → World → Prop} (hK : ∀ v w τ d, K v w → K v (w.on τ d)) (h : ∀ τ d, ∃ R : Ending → World → Prop, (∀ e w, R e w → Told P K e w) ∧ Calls P f args (u.on τ d) R)
    (hn : ∀ v u', K v u' → Wn C (c.finish v) cs u') : Wn C (Frame.enter P f args .normal) (c :: cs) u := by
  have hB := bars (R := fun fr' w' => ∃ v, fr'.leaving P w' (.returned v) ∧ K v w') C.list (fun fr w τ d ⟨v, h1, h2⟩ => ⟨v, leaving_on h1 τ d, hK v w τ d h2⟩) (enter_ok C.list hf args) (u := u)
    (fun τ d => by obtain ⟨R, hR, hc⟩ := h τ d; exact comes1_of_calls hR hc)
  have := wn_of_bars (C := C) (cs := c :: cs) hB (fun fr' u' ⟨v, h1, h2⟩ _ => Wn.leave h1 (hn v u' h2))
  exact this

section ops
variable {b : Frame} {a : Act} {ops : Array Oper} {i : Nat} {rest : List Nat} {k : List Item} {o : Oper}

theorem Wn.unwanted (ho : ops[i]? = some o) (hw : Region.wanted o (yielded ops a.tmps) = false) (h : Wn C (b.at (a.put o.dst undef) (.inRegion ops rest :: k)) cs u) : Wn C (b.at a (.inRegion ops (i :: rest) :: k)) cs u :=
  .ctl (fun _ _ => stepG_unwanted ho hw) h

theorem act_const (a : Act) : (∀ f, a.eval (.func f) = .func (.func f) #[] #[]) ∧ ∀ v, a.eval (.const v) = v := ⟨fun _ => rfl, fun _ => rfl⟩

/-- One operation of plain code, by the lone machine's law of it, told upon every tape. -/
theorem Wn.one (ho : ops[i]? = some o) (hok : opOk P C.fz C.S o.op = true) (hb : b.kind ≠ .early)
    (h : ∀ τ d, wpList P ops (Exit.then (fun a' u' => Wn C (b.at a' (.inRegion ops rest :: k)) cs u') (fun _ _ _ => False)) [o] a (u.on τ d)) : Wn C (b.at a (.inRegion ops (i :: rest) :: k)) cs u := by
  cases hw : Region.wanted o (yielded ops a.tmps) with
  | false =>
    have h0 := h u.tape u.drawn
    unfold wpList at h0
    rw [hw] at h0
    simp only [Bool.false_eq_true, if_false] at h0
    have h1 : Wn C (b.at (a.put o.dst undef) (.inRegion ops rest :: k)) cs u := h0
    exact .unwanted ho hw h1
  | true =>
    have hwp : ∀ τ d, o.wp P a (u.on τ d) (fun a' u' => Wn C (b.at a' (.inRegion ops rest :: k)) cs u') (Exit.then (fun a' u' => Wn C (b.at a' (.inRegion ops rest :: k)) cs u') (fun _ _ _ => False)) := by
      intro τ d
      have h0 := h τ d
      unfold wpList at h0
      rw [hw] at h0
      simp only [if_true] at h0
      rcases h0 with h0 | ⟨_, _, _, h0⟩
      · exact h0
      · exact h0.elim
    clear h
    have hke : b.kind ≠ .early := hb
    have ht := tame_exec (P := P) (fz := C.fz) (S := C.S) C.list.bodied (ρ := a.eval) (act_const a).1 (act_const a).2 hok
    intro w hl hf
    refine Win.go rfl fun d => ?_
    cases hr : (execOp a.eval o).run P (u.on w.tape d) with
    | halt hh U' =>
      have h1 := hwp w.tape d
      unfold Oper.wp at h1
      rw [hr] at h1
      cases hh <;> exact h1.elim
    | ok x U' =>
      obtain ⟨hleaf, m, u', w', es, e1, e2, e3, e4, e5, e6⟩ := ht.sim2 C.thaw hl hr
      have hrun : (execOp a.eval o).run P (w.at d) = .ok x (w'.on w.tape (d + m)) := by
        rw [on_at, ← Sem.runT_fst P _ _ #[], e5 w.tape d (fun _ _ => rfl)]
      have hev : ∀ e ∈ listed P b.fn a o (w.at d), EvH C.I e := by
        intro e he
        have h5 := e5 w.tape d (fun _ _ => rfl)
        have h6 : (execOp a.eval o).events P (w.on w.tape d) #[] = es := by
          have := congrArg Prod.snd h5
          simpa using this
        unfold listed at he
        rw [on_at, h6] at he
        exact evH_of C.cover (e4 e (mem_seen he))
      have hfl := floor_on (keeps_floor C.cover e3 hf) w.tape (d + m)
      have hlk := like_w e2 w.tape (d + m)
      have h1 := hwp w.tape d
      unfold Oper.wp at h1
      rw [hr] at h1
      cases x with
      | value v =>
        refine ⟨_, _, _, stepG_value ho hw hke hrun, hev, hfl, ?_⟩
        have h2 : Wn C (b.at (a.put o.dst v) (.inRegion ops rest :: k)) cs U' := h1
        rw [e1] at h2
        exact h2 _ (like_u hlk _ _) hfl
      | skip =>
        refine ⟨_, _, _, stepG_none ho hw hke hrun, hev, hfl, ?_⟩
        have h2 : Wn C (b.at (a.put o.dst undef) (.inRegion ops rest :: k)) cs U' := h1
        rw [e1] at h2
        exact h2 _ (like_u hlk _ _) hfl
      | enter f args =>
        have hfS : C.S f = true := hleaf
        refine ⟨_, _, _, stepG_enter ho hw hke hrun, hev, hfl, ?_⟩
        have hn : Wn C (Frame.enter P f args .normal) (b.at a (.inRegion ops (i :: rest) :: k) :: cs) u' := by
          have hB := bars (R := fun fr' w' => ∃ v, fr'.leaving P w' (.returned v) ∧ Wn C (b.at (a.put o.dst v) (.inRegion ops rest :: k)) cs w') C.list (fun fr w τ d ⟨v, h1, h2⟩ => ⟨v, leaving_on h1 τ d, h2.on τ d⟩) (enter_ok C.list hfS args) (u := u')
            (fun τ' d' => by
              -- upon a tape that answers the operation as it was answered, and goes on as this one
              have hcat := e6 (fun j => if j < m then w.tape (d + j) else τ' (d' + (j - m))) 0 (fun j hj => by simp [hj])
              obtain ⟨es', hcat⟩ := hcat
              have hrc : (execOp a.eval o).run P (u.on (fun j => if j < m then w.tape (d + j) else τ' (d' + (j - m))) 0) = .ok (.enter f args) (u'.on (fun j => if j < m then w.tape (d + j) else τ' (d' + (j - m))) (0 + m)) := by
                rw [← Sem.runT_fst P _ _ #[], hcat]
              have h2 := hwp (fun j => if j < m then w.tape (d + j) else τ' (d' + (j - m))) 0
              unfold Oper.wp at h2
              rw [hrc] at h2
              have h3 := comes1_of_calls (K := fun v w' => Wn C (b.at (a.put o.dst v) (.inRegion ops rest :: k)) cs w') (fun e w he => by
                cases e with
                | returned v => exact he
                | panicked ch => exact he.elim
                | outgrown => obtain ⟨_, _, he⟩ := he; exact he.elim) h2
              obtain ⟨n, fr', w'', g1, g2, g3⟩ := h3
              exact shift C.list (fun fr w τ d ⟨v, h1, h2⟩ => ⟨v, leaving_on h1 τ d, h2.on τ d⟩) n (enter_ok C.list hfS args) (fun j => by
                have : ¬ (0 + m + j < m) := by omega
                simp only [this, if_false]
                congr 1
                omega) ⟨fr', w'', g1, g2, g3⟩)
          refine wn_of_bars (C := C) hB fun fr' u'' ⟨v, h3, h4⟩ _ => Wn.leave h3 ?_
          rw [Frame.finish_at, ho]
          exact h4
        exact hn _ hlk hfl
      | _ => exact hleaf.elim
end ops
end
end Go.Proofs.Ytoabkcalphpkhaa

/- Several operations of a region at once, that draw nothing: by the lone machine's laws. No program in sight. -/
namespace Go.Proofs.Ytoabkcalphpkhaa
open Go Go.Conc
set_option linter.unusedVariables false
set_option linter.unusedSimpArgs false
set_option linter.unusedSectionVars false

/-- The same world upon another tape. -/
def Same (u u1 : World) : Prop := ∃ τ d, u1 = u.on τ d
theorem Same.heap {u u1 : World} (h : Same u u1) : u1.heap = u.heap := by obtain ⟨_, _, rfl⟩ := h; rfl
theorem Same.os {u u1 : World} (h : Same u u1) : u1.os = u.os := by obtain ⟨_, _, rfl⟩ := h; rfl
theorem Same.output {u u1 : World} (h : Same u u1) : u1.output = u.output := by obtain ⟨_, _, rfl⟩ := h; rfl

section
variable {P : Program} {C : Ctx P} {cs : List Frame} {b : Frame} {k : List Item} {ops : Array Oper}

abbrev nobody : FuncId → Bool := fun _ => false

/-- What may go out of a span. -/
def Only (K : Act → World → Prop) : Exit → Act → World → Prop := Exit.then K (fun _ _ _ => False)

theorem span_drawn (C : Ctx P) : ∀ (os : List Oper) (a : Act) (u : World) (K : Act → World → Prop), (os.all fun o => opOk P C.fz nobody o.op) = true → wpList P ops (Only K) os a u → ∃ a' u', K a' u' ∧ u.drawn ≤ u'.drawn
  | [], a, u, K, _, h => ⟨a, u, h, Nat.le_refl _⟩
  | o :: os, a, u, K, hok, h => by
    simp only [List.all_cons, Bool.and_eq_true] at hok
    unfold wpList at h
    cases hw : Region.wanted o (yielded ops a.tmps) with
    | false =>
      rw [hw] at h
      simp only [Bool.false_eq_true, if_false] at h
      exact span_drawn C os _ u K hok.2 h
    | true =>
      rw [hw] at h
      simp only [if_true] at h
      rcases h with h | ⟨_, _, _, h⟩
      · have ht := tame_exec (P := P) (fz := C.fz) (S := nobody) (fun f hf => by cases hf) (ρ := a.eval) (act_const a).1 (act_const a).2 hok.1
        unfold Oper.wp at h
        cases hr : (execOp a.eval o).run P u with
        | halt hh U' => rw [hr] at h; cases hh <;> exact h.elim
        | ok x U' =>
          obtain ⟨hleaf, m, u', w', es, e1, _⟩ := ht.sim2 (G := fun _ => none) (fun _ _ => rfl) (τ := u.tape) (d := u.drawn) (Like.refl u) (by rw [on_self]; exact hr)
          have hd : u.drawn ≤ U'.drawn := by
            have := congrArg World.drawn e1
            simp only [World.on] at this
            omega
          rw [hr] at h
          cases x with
          | value v =>
            obtain ⟨a', u'', h1, h2⟩ := span_drawn C os _ U' K hok.2 h
            exact ⟨a', u'', h1, Nat.le_trans hd h2⟩
          | skip =>
            obtain ⟨a', u'', h1, h2⟩ := span_drawn C os _ U' K hok.2 h
            exact ⟨a', u'', h1, Nat.le_trans hd h2⟩
          | enter f args => cases hleaf
          | _ => exact hleaf.elim
      · exact h.elim

theorem Same.refl (u : World) : Same u u := ⟨u.tape, u.drawn, rfl⟩

theorem span_aux (hb : b.kind ≠ .early) : ∀ (os : List Oper) (n m : Nat) (a : Act) (u : World) (K : Act → World → Prop), (∀ j o, os[j]? = some o → ops[n + j]? = some o) → os.length ≤ m → (os.all fun o => opOk P C.fz nobody o.op) = true →
    (∀ u1, Same u u1 → wpList P ops (Only fun a' u' => u'.drawn = u1.drawn ∧ K a' u') os a u1) → (∀ a' u', K a' u' → Wn C (b.at a' (.inRegion ops (List.range' (n + os.length) (m - os.length)) :: k)) cs u') →
    Wn C (b.at a (.inRegion ops (List.range' n m) :: k)) cs u
  | [], n, m, a, u, K, _, _, _, h, hK => hK a u (h u (Same.refl u)).2
  | o :: os, n, m, a, u, K, hat, hlen, hok, h, hK => by
    obtain ⟨m, rfl⟩ : ∃ m', m = m' + 1 := ⟨m - 1, by simp at hlen; omega⟩
    simp only [List.all_cons, Bool.and_eq_true] at hok
    simp only [List.length_cons] at hlen
    have ho : ops[n]? = some o := by simpa using hat 0 o rfl
    rw [List.range'_succ]
    have next : ∀ a₁ u₁, (∀ u2, Same u₁ u2 → wpList P ops (Only fun a' u' => u'.drawn = u2.drawn ∧ K a' u') os a₁ u2) → Wn C (b.at a₁ (.inRegion ops (List.range' (n + 1) m) :: k)) cs u₁ := by
      intro a₁ u₁ h₁
      refine span_aux hb os (n + 1) m a₁ u₁ K (fun j o' hj => by have := hat (j + 1) o' (by simpa using hj); rw [show n + 1 + j = n + (j + 1) by omega]; exact this) (by omega) hok.2 h₁ fun a' u' hk => ?_
      have := hK a' u' hk
      simp only [List.length_cons] at this
      rw [show n + 1 + os.length = n + (os.length + 1) by omega, show m - os.length = m + 1 - (os.length + 1) by omega]
      exact this
    cases hw : Region.wanted o (yielded ops a.tmps) with
    | false =>
      refine .unwanted ho hw (next _ _ fun u2 hs => ?_)
      have h2 := h u2 hs
      unfold wpList at h2
      rw [hw] at h2
      simpa using h2
    | true =>
      have hwp : ∀ u1, Same u u1 → o.wp P a u1 (wpList P ops (Only fun a' u' => u'.drawn = u1.drawn ∧ K a' u') os) (Only fun a' u' => u'.drawn = u1.drawn ∧ K a' u') := by
        intro u1 hs
        have h0 := h u1 hs
        unfold wpList at h0
        rw [hw] at h0
        simp only [if_true] at h0
        rcases h0 with h0 | ⟨_, _, _, h0⟩
        · exact h0
        · exact h0.elim
      have hok1 : opOk P C.fz nobody o.op = true := hok.1
      have hke : b.kind ≠ .early := hb
      have ht := tame_exec (P := P) (fz := C.fz) (S := nobody) (fun f hf => by cases hf) (ρ := a.eval) (act_const a).1 (act_const a).2 hok1
      -- what it does, upon the walk's own tape: it draws nothing
      have h1 := hwp u (Same.refl u)
      unfold Oper.wp at h1
      cases hr : (execOp a.eval o).run P u with
      | halt hh U' => rw [hr] at h1; cases hh <;> exact h1.elim
      | ok x U' =>
        have hleaf := (ht.sim2 (G := fun _ => none) (fun _ _ => rfl) (τ := u.tape) (d := u.drawn) (Like.refl u) (by rw [on_self]; exact hr)).1
        obtain ⟨m0, e1⟩ : ∃ m0, U'.drawn = u.drawn + m0 := by
          obtain ⟨_, m0, u₁, _, _, e1, _⟩ := ht.sim2 (G := fun _ => none) (fun _ _ => rfl) (τ := u.tape) (d := u.drawn) (Like.refl u) (by rw [on_self]; exact hr)
          exact ⟨m0, by rw [e1]; rfl⟩
        rw [hr] at h1
        have hd : U'.drawn = u.drawn := by
          cases x with
          | value v =>
            obtain ⟨a', u'', ⟨h2, _⟩, h3⟩ := span_drawn C os _ U' _ hok.2 h1
            omega
          | skip =>
            obtain ⟨a', u'', ⟨h2, _⟩, h3⟩ := span_drawn C os _ U' _ hok.2 h1
            omega
          | enter f args => cases hleaf
          | _ => exact hleaf.elim
        intro w hl hf
        obtain ⟨w', es, e2, e3, e4, e5, e6⟩ := sim0 ht C.thaw hl hr hd
        refine Win.go rfl fun d => ?_
        have hrun : (execOp a.eval o).run P (w.at d) = .ok x (w'.on w.tape d) := by rw [on_at, ← Sem.runT_fst P _ _ #[], e5 w.tape d]
        have hev : ∀ e ∈ listed P b.fn a o (w.at d), EvH C.I e := by
          intro e he
          have h6 : (execOp a.eval o).events P (w.on w.tape d) #[] = es := by
            have := congrArg Prod.snd (e5 w.tape d)
            simpa using this
          unfold listed at he
          rw [on_at, h6] at he
          exact evH_of C.cover (e4 e (mem_seen he))
        have hfl := floor_on (keeps_floor C.cover e3 hf) w.tape d
        have hlk := like_w e2 w.tape d
        -- the rest, upon every tape
        have later : ∀ a₁, (∀ τ d, (execOp a.eval o).run P (u.on τ d) = .ok x (U'.on τ d) → wpList P ops (Only fun a' u' => u'.drawn = (u.on τ d).drawn ∧ K a' u') os a₁ (U'.on τ d)) → Wn C (b.at a₁ (.inRegion ops (List.range' (n + 1) m) :: k)) cs U' := by
          intro a₁ ha
          refine next a₁ U' fun u2 hs => ?_
          obtain ⟨τ, d, rfl⟩ := hs
          exact ha τ d (e6 τ d)
        cases x with
        | value v =>
          refine ⟨_, _, _, stepG_value ho hw hke hrun, hev, hfl, later _ (fun τ d hrr => ?_) _ hlk hfl⟩
          have h2 := hwp (u.on τ d) ⟨τ, d, rfl⟩
          unfold Oper.wp at h2
          rw [hrr] at h2
          exact h2
        | skip =>
          refine ⟨_, _, _, stepG_none ho hw hke hrun, hev, hfl, later _ (fun τ d hrr => ?_) _ hlk hfl⟩
          have h2 := hwp (u.on τ d) ⟨τ, d, rfl⟩
          unfold Oper.wp at h2
          rw [hrr] at h2
          exact h2
        | enter f args => cases hleaf
        | _ => exact hleaf.elim

/-- The operations n, n + 1, .. of a region, j of them. -/
theorem Wn.span (hb : b.kind ≠ .early) {l : List Oper} {a : Act} {u : World} (n j m : Nat) (hjm : j ≤ m) (hlen : n + m ≤ l.length) (hok : (((l.drop n).take j).all fun o => opOk P C.fz nobody o.op) = true)
    (h : ∀ u1, Same u u1 → wpList P l.toArray (Only fun a' u' => u'.drawn = u1.drawn ∧ Wn C (b.at a' (.inRegion l.toArray (List.range' (n + j) (m - j)) :: k)) cs u') ((l.drop n).take j) a u1) :
    Wn C (b.at a (.inRegion l.toArray (List.range' n m) :: k)) cs u := by
  have hl : ((l.drop n).take j).length = j := by rw [List.length_take, List.length_drop]; omega
  refine span_aux hb _ n m a u (fun a' u' => Wn C (b.at a' (.inRegion l.toArray (List.range' (n + j) (m - j)) :: k)) cs u') (fun i o hi => ?_) (by omega) hok h (fun a' u' hk => by rw [hl]; exact hk)
  rw [List.getElem?_take] at hi
  split at hi
  · rw [List.getElem?_drop] at hi
    simpa using hi
  · cases hi
/-- A whole region. -/
theorem Wn.region_span (hb : b.kind ≠ .early) {id : Nat} {l : List Oper} {a : Act} {u : World} (hok : (l.all fun o => opOk P C.fz nobody o.op) = true)
    (h : ∀ u1, Same u u1 → wpList P l.toArray (Only fun a' u' => u'.drawn = u1.drawn ∧ Wn C (b.at a' k) cs u') l a u1) : Wn C (b.at a (.code (.region id l.toArray false) :: k)) cs u := by
  refine Wn.region ?_
  rw [List.range_eq_range']
  refine span_aux hb l 0 _ a u (fun a' u' => Wn C (b.at a' k) cs u') (fun i o hi => by simpa using hi) (by simp) hok h (fun a' u' hk => ?_)
  simp only [Nat.zero_add, List.size_toArray, Nat.sub_self, List.range'_zero]
  exact Wn.region_end hk
/-- A region's first operations. -/
theorem Wn.region_pre (hb : b.kind ≠ .early) {id : Nat} {l : List Oper} {a : Act} {u : World} (j : Nat) (hj : j ≤ l.length) (hok : ((l.take j).all fun o => opOk P C.fz nobody o.op) = true)
    (h : ∀ u1, Same u u1 → wpList P l.toArray (Only fun a' u' => u'.drawn = u1.drawn ∧ Wn C (b.at a' (.inRegion l.toArray (List.range' j (l.length - j)) :: k)) cs u') (l.take j) a u1) : Wn C (b.at a (.code (.region id l.toArray false) :: k)) cs u := by
  refine Wn.region ?_
  rw [List.range_eq_range']
  have := Wn.span (C := C) (cs := cs) (k := k) hb (l := l) (a := a) (u := u) 0 j l.length hj (by omega) (by simpa using hok) (by simpa using h)
  simpa using this
end
end Go.Proofs.Ytoabkcalphpkhaa

/- The baton passes: a send to a seat; a go statement; the way to one's own seat. No program in sight. -/
namespace Go.Proofs.Ytoabkcalphpkhaa
open Go Go.Conc
set_option linter.unusedVariables false
set_option linter.unusedSimpArgs false
set_option linter.unusedSectionVars false

section
variable {P : Program} {main : Bool} {b : Frame} {a : Act} {k : List Item} {cs : List Frame} {w : World} {ops : Array Oper} {i : Nat} {rest : List Nat} {o : Oper}

theorem listed_of {fn : FuncId} (he : (execOp a.eval o).events P w #[] = #[]) : listed P fn a o w = #[] := by unfold listed; rw [he, seen_none]

theorem stepG_send (ho : ops[i]? = some o) (hw : Region.wanted o (yielded ops a.tmps) = true) (hke : b.kind ≠ .early) {x y : Operand} (hop : o.op = .send x y) {c : Nat} {v : Value} (hx : a.eval x = .chan (some c)) (hy : a.eval y = v) :
    stepG P main (gr (b.at a (.inRegion ops (i :: rest) :: k)) cs) w = .comm (gr (b.at a (.inRegion ops (i :: rest) :: k)) cs) #[scase c v (.tuple #[])] true .send w #[] := by
  have he : execOp a.eval o = pure (.comm #[scase c v (.tuple #[])] true .send) := by
    unfold execOp
    rw [hop]
    simp only [hx, hy, scase]
  have := stepG_comm (P := P) (main := main) (b := b) (k := k) (cs := cs) (w := w) (rest := rest) (w' := w) (cases := #[scase c v (.tuple #[])]) (blocking := true) (shape := .send) ho hw hke (by rw [he]; rfl)
  rw [listed_of (by rw [he]; rfl)] at this
  exact this

theorem stepG_recv (ho : ops[i]? = some o) (hw : Region.wanted o (yielded ops a.tmps) = true) (hke : b.kind ≠ .early) {t : TypeId} {x : Operand} (hop : o.op = .recv t x false) {dir : ChanDir} {elem : TypeId} (ht : P.underlying t = some (.chan dir elem))
    {z : Value} (hz : (P.info? elem).map (·.zero) = some (some z)) {c : Nat} (hx : a.eval x = .chan (some c)) :
    stepG P main (gr (b.at a (.inRegion ops (i :: rest) :: k)) cs) w = .comm (gr (b.at a (.inRegion ops (i :: rest) :: k)) cs) #[rcase c z] true (.recv false) w #[] := by
  obtain ⟨ti, hti, hzz⟩ := Option.map_eq_some_iff.1 hz
  have he : (execOp a.eval o).runT P w #[] = (.ok (.comm #[rcase c z] true (.recv false)) w, #[]) := by
    unfold execOp
    rw [hop]
    simp [hx, rcase, zeroValue, typeInfo, hti, hzz, run_underlying ht]
  have h1 : (execOp a.eval o).run P w = .ok (.comm #[rcase c z] true (.recv false)) w := by rw [← Sem.runT_fst P _ _ #[], he]
  have h2 : (execOp a.eval o).events P w #[] = #[] := by have := congrArg Prod.snd he; simpa using this
  have := stepG_comm (P := P) (main := main) (b := b) (k := k) (cs := cs) (w := w) (rest := rest) (w' := w) (cases := #[rcase c z]) (blocking := true) (shape := .recv false) ho hw hke h1
  rw [listed_of h2] at this
  exact this

/-! ### on the way to a seat -/
variable {s : Seat} {n : Nat}
theorem Way.ctl {fr fr' : Frame} {cs' : List Frame} (h : ∀ w, stepG P main (gr fr cs) w = .go (gr fr' cs') w) (hw : Way P main s n (gr fr' cs')) : Way P main s (n + 1) (gr fr cs) :=
  .step rfl (fun _ => #[]) (fun _ _ => by simp) (fun w _ => h w) hw
/-- An operation that reads nothing, or cells of one's own. -/
theorem Way.value {v : Value} (ho : ops[i]? = some o) (hw : Region.wanted o (yielded ops a.tmps) = true) (hke : b.kind ≠ .early) (hr : ∀ w, s.reads w → (execOp a.eval o).run P w = .ok (.value v) w)
    (he : ∀ w, s.reads w → ∀ e ∈ (execOp a.eval o).events P w #[], ∃ ad, e = ⟨.cell ad, false, false⟩ ∧ s.St (.cell ad)) (h : Way P main s n (gr (b.at (a.put o.dst v) (.inRegion ops rest :: k)) cs)) :
    Way P main s (n + 1) (gr (b.at a (.inRegion ops (i :: rest) :: k)) cs) :=
  .step rfl (fun w => listed P b.fn a o w) (fun w hs e he' => he w hs e (mem_seen he')) (fun w hs => stepG_value ho hw hke (hr w hs)) h
theorem Way.recv (ho : ops[i]? = some o) (hw : Region.wanted o (yielded ops a.tmps) = true) (hke : b.kind ≠ .early) {t : TypeId} {x : Operand} (hop : o.op = .recv t x false) {dir : ChanDir} {elem : TypeId} (ht : P.underlying t = some (.chan dir elem))
    (hz : (P.info? elem).map (·.zero) = some (some s.z)) (hx : a.eval x = .chan (some s.c)) (hr : s.r = gr (b.at a (.inRegion ops (i :: rest) :: k)) cs) : Way P main s 0 (gr (b.at a (.inRegion ops (i :: rest) :: k)) cs) :=
  .here rfl (fun _ => #[]) (fun _ _ => by simp) (fun w _ => by rw [hr]; exact stepG_recv ho hw hke hop ht hz hx)
end

section
variable {P : Program} {C : Ctx P} {cs : List Frame} {u : World}

/-- The context in which another one holds the baton. -/
def Ctx.next (C : Ctx P) (N' h' : Nat) (I' : Seats) (hc : ∀ i s, I' i = some s → ∀ p ∈ s.cells, C.Gd.has p.1) : Ctx P :=
  { C with N := N', h := h', I := I', cover := hc }

/-- The walk in a world in which other cells are frozen. -/
theorem Wn.reguard {C' : Ctx P} {fr : Frame} {u' : World} (hP : C'.Post = C.Post) (hN : C'.N = C.N) (hh : C'.h = C.h) (hI : C'.I = C.I) (hl : ∀ w, Like C.Gd w u → Like C'.Gd w u') (h : Wn C' fr cs u') : Wn C fr cs u := by
  intro w hlw hf
  have := h w (hl w hlw) (by rw [hI]; exact hf)
  rw [hP, hN, hh, hI] at this
  exact this

theorem like_setChan {Gd : Guard} {w u : World} (h : Like Gd w u) (c cap : Nat) (buf : Array Value) (cl : Bool) (s r : Nat) (tm : Bool) (hc : Gd c = none) : Like Gd (w.setChan c cap buf cl s r tm) (u.setChan c cap buf cl s r tm) := by
  refine ⟨h.os, h.out, by simp [World.setChan, h.size], fun x hx => ?_, fun x r' hx => ?_⟩
  · simp only [World.setChan, Array.getElem?_setIfInBounds, h.size]
    by_cases e : c = x
    · subst e; rw [if_pos rfl, if_pos rfl]
    · rw [if_neg e, if_neg e]; exact h.blk x hx
  · obtain ⟨c₁, e₁, h1, h2⟩ := h.grd x r' hx
    have e : c ≠ x := fun e => by rw [e, hx] at hc; cases hc
    simp only [World.setChan, Array.getElem?_setIfInBounds, h.size]
    rw [if_neg e, if_neg e]
    exact ⟨c₁, e₁, h1, h2⟩

variable {b : Frame} {a : Act} {k : List Item} {ops : Array Oper} {i : Nat} {rest : List Nat} {o : Oper}

theorem open0_like {Gd : Guard} {w u : World} (h : Like Gd w u) {c : Nat} (hc : open0 u c) : open0 w c := by
  obtain ⟨n, hn⟩ := hc
  exact ⟨n, h.obj hn (fun _ _ _ he => by cases he)⟩
theorem reads_like {Gd : Guard} {w u : World} (h : Like Gd w u) {s : Seat} (hs : s.reads u) : s.reads w := fun p hp => (h.cell p.1).trans (hs p hp)

/-- The giver goes on to a seat of its own. -/
theorem Wn.give (hb : b.kind ≠ .early) (ho : ops[i]? = some o) (hw : Region.wanted o (yielded ops a.tmps) = true) (hd : o.dst = none) {x y : Operand} (hop : o.op = .send x y) {v : Value} {j : Nat} {s s' : Seat} {n : Nat} (hj : C.I j = some s)
    (hx : a.eval x = .chan (some s.c)) (hy : a.eval y = v) (hGc : C.Gd s.c = none) (hs : SeatOk C.I s' u) (hway : Way P (C.h == 0) s' n (gr (b.at a (.inRegion ops rest :: k)) cs)) (hcov : ∀ p ∈ s'.cells, C.Gd.has p.1)
    {fr : Frame} {fs : List Frame} (hr : s.r = gr fr fs)
    (h : ∀ hc kk, Wn (C.next C.N j ((C.I.set C.h (some s')).set j none) hc) (fr.finish v) fs (u.setChan s.c 0 #[] false kk kk false)) : Wn C (b.at a (.inRegion ops (i :: rest) :: k)) cs u := by
  intro w hl hf
  have hke : b.kind ≠ .early := hb
  have hc : ∀ i' s₁, ((C.I.set C.h (some s')).set j none) i' = some s₁ → ∀ p ∈ s₁.cells, C.Gd.has p.1 := by
    intro i' s₁ hi
    unfold Seats.set at hi
    split at hi
    · cases hi
    · split at hi
      · cases hi; exact hcov
      · exact C.cover i' s₁ hi
  have hfin : (b.at a (.inRegion ops (i :: rest) :: k)).finish undef = b.at a (.inRegion ops rest :: k) := by
    rw [Frame.finish_at, ho]
    simp [hd, Act.put]
  refine Win.give (P := P) (j := j) (s := s) (v := v) rfl hj (fun _ => gr (b.at a (.inRegion ops (i :: rest) :: k)) cs) (fun d => w.at d) (fun _ => #[]) (fun _ => .tuple #[]) (fun d => stepG_send ho hw hke hop hx hy) (fun _ => by simp) (fun d => floor_at d hf) (fun _ => some s') (fun _ => n)
    (fun d => ⟨⟨reads_like (like_w hl w.tape d) hs.reads, open0_like (like_w hl w.tape d) hs.chan, hs.own⟩, ?_⟩) (fun d d' kk => ?_)
  · have : Conc.served (gr (b.at a (.inRegion ops (i :: rest) :: k)) cs) undef = gr (b.at a (.inRegion ops rest :: k)) cs := by
      unfold Conc.served
      rw [hfin]
    rw [this]
    exact hway
  · have e : Conc.served s.r v = gr (fr.finish v) fs := by rw [hr]; rfl
    rw [e]
    have hl' : Like C.Gd (((w.at d).at d').setChan s.c 0 #[] false kk kk false) (u.setChan s.c 0 #[] false kk kk false) := like_setChan (like_w hl w.tape d') _ _ _ _ _ _ _ hGc
    have hopen : open0 (w.at d') s.c := hf.chans j s hj
    refine h hc kk _ hl' ?_
    -- the seats behind the meeting
    refine ⟨fun i' s₁ hi p hp => ?_, fun i' s₁ hi => ?_⟩
    · refine cell_setChan hopen ?_
      show w.cell? p.1 = some p.2
      change ((C.I.set C.h (some s')).set j none) i' = some s₁ at hi
      unfold Seats.set at hi
      split at hi
      · cases hi
      · split at hi
        · cases hi; exact reads_like hl hs.reads p hp
        · exact hf.reads i' s₁ hi p hp
    · have key : ∀ c', open0 w c' → open0 ((w.at d').setChan s.c 0 #[] false kk kk false) c' := by
        intro c' ⟨k₁, hk₁⟩
        by_cases e' : s.c = c'
        · subst e'
          exact ⟨kk, heap_setChan_self (w.at d') hk₁ _ _ _ _ _ _⟩
        · exact ⟨k₁, by rw [heap_setChan_ne (w.at d') _ _ _ _ _ _ e']; exact hk₁⟩
      change ((C.I.set C.h (some s')).set j none) i' = some s₁ at hi
      unfold Seats.set at hi
      split at hi
      · cases hi
      · split at hi
        · cases hi; exact key _ (open0_like hl hs.chan)
        · exact key _ (hf.chans i' s₁ hi)

/-- The giver only leaves. -/
theorem Wn.give_quit (hb : b.kind ≠ .early) (ho : ops[i]? = some o) (hw : Region.wanted o (yielded ops a.tmps) = true) (hd : o.dst = none) {x y : Operand} (hop : o.op = .send x y) {v : Value} {j : Nat} {s : Seat} {n : Nat} (hj : C.I j = some s)
    (hx : a.eval x = .chan (some s.c)) (hy : a.eval y = v) (hGc : C.Gd s.c = none) (h0 : 0 < C.h) (hq : QuitsD P n 0 (gr (b.at a (.inRegion ops rest :: k)) cs))
    {fr : Frame} {fs : List Frame} (hr : s.r = gr fr fs)
    (h : ∀ hc kk, Wn (C.next C.N j ((C.I.set C.h none).set j none) hc) (fr.finish v) fs (u.setChan s.c 0 #[] false kk kk false)) : Wn C (b.at a (.inRegion ops (i :: rest) :: k)) cs u := by
  intro w hl hf
  have hke : b.kind ≠ .early := hb
  have hc : ∀ i' s₁, ((C.I.set C.h none).set j none) i' = some s₁ → ∀ p ∈ s₁.cells, C.Gd.has p.1 := by
    intro i' s₁ hi
    unfold Seats.set at hi
    split at hi
    · cases hi
    · split at hi
      · cases hi
      · exact C.cover i' s₁ hi
  have hfin : (b.at a (.inRegion ops (i :: rest) :: k)).finish undef = b.at a (.inRegion ops rest :: k) := by
    rw [Frame.finish_at, ho]
    simp [hd, Act.put]
  refine Win.give (P := P) (j := j) (s := s) (v := v) rfl hj (fun _ => gr (b.at a (.inRegion ops (i :: rest) :: k)) cs) (fun d => w.at d) (fun _ => #[]) (fun _ => .tuple #[]) (fun d => stepG_send ho hw hke hop hx hy) (fun _ => by simp) (fun d => floor_at d hf) (fun _ => none) (fun _ => n)
    (fun d => ⟨h0, ?_⟩) (fun d d' kk => ?_)
  · have : Conc.served (gr (b.at a (.inRegion ops (i :: rest) :: k)) cs) undef = gr (b.at a (.inRegion ops rest :: k)) cs := by
      unfold Conc.served
      rw [hfin]
    rw [this]
    exact hq
  · have e : Conc.served s.r v = gr (fr.finish v) fs := by rw [hr]; rfl
    rw [e]
    have hl' : Like C.Gd (((w.at d).at d').setChan s.c 0 #[] false kk kk false) (u.setChan s.c 0 #[] false kk kk false) := like_setChan (like_w hl w.tape d') _ _ _ _ _ _ _ hGc
    have hopen : open0 (w.at d') s.c := hf.chans j s hj
    refine h hc kk _ hl' ?_
    refine ⟨fun i' s₁ hi p hp => ?_, fun i' s₁ hi => ?_⟩
    · refine cell_setChan hopen ?_
      show w.cell? p.1 = some p.2
      change ((C.I.set C.h none).set j none) i' = some s₁ at hi
      unfold Seats.set at hi
      split at hi
      · cases hi
      · split at hi
        · cases hi
        · exact hf.reads i' s₁ hi p hp
    · have key : ∀ c', open0 w c' → open0 ((w.at d').setChan s.c 0 #[] false kk kk false) c' := by
        intro c' ⟨k₁, hk₁⟩
        by_cases e' : s.c = c'
        · subst e'
          exact ⟨kk, heap_setChan_self (w.at d') hk₁ _ _ _ _ _ _⟩
        · exact ⟨k₁, by rw [heap_setChan_ne (w.at d') _ _ _ _ _ _ e']; exact hk₁⟩
      change ((C.I.set C.h none).set j none) i' = some s₁ at hi
      unfold Seats.set at hi
      split at hi
      · cases hi
      · split at hi
        · cases hi
        · exact key _ (hf.chans i' s₁ hi)

/-- A go statement: the child holds the baton, its maker goes on to a seat. -/
theorem Wn.hire (hb : b.kind ≠ .early) (ho : ops[i]? = some o) (hw : Region.wanted o (yielded ops a.tmps) = true) (hd : o.dst = none) {dd : Deferred} {f : Fn} {cap : Array Value} (hdt : dd.target = .fn f cap)
    (hr : ∀ w, (execOp a.eval o).runT P w #[] = (.ok (.spawn dd) w, #[])) {s' : Seat} {n : Nat} (hs : SeatOk C.I s' u) (hway : Way P (C.h == 0) s' n (gr (b.at a (.inRegion ops rest :: k)) cs)) (hcov : ∀ p ∈ s'.cells, C.Gd.has p.1)
    (h : ∀ hc, Wn (C.next (C.N + 1) C.N (C.I.set C.h (some s')) hc) (born P dd).frame [] u) : Wn C (b.at a (.inRegion ops (i :: rest) :: k)) cs u := by
  intro w hl hf
  have hke : b.kind ≠ .early := hb
  have hc : ∀ i' s₁, (C.I.set C.h (some s')) i' = some s₁ → ∀ p ∈ s₁.cells, C.Gd.has p.1 := by
    intro i' s₁ hi
    unfold Seats.set at hi
    split at hi
    · cases hi; exact hcov
    · exact C.cover i' s₁ hi
  have hst : ∀ d, stepG P (C.h == 0) (gr (b.at a (.inRegion ops (i :: rest) :: k)) cs) (w.at d) = .spawn (gr (b.at a (.inRegion ops rest :: k)) cs) (born P dd) (w.at d) #[] := by
    intro d
    have h1 : (execOp a.eval o).run P (w.at d) = .ok (.spawn dd) (w.at d) := by rw [← Sem.runT_fst P _ _ #[], hr]
    have h2 : (execOp a.eval o).events P (w.at d) #[] = #[] := by have := congrArg Prod.snd (hr (w.at d)); simpa using this
    have := stepG_spawn (P := P) (main := C.h == 0) (b := b) (a := a) (k := k) (cs := cs) (rest := rest) ho hw hke h1 hdt
    rw [listed_of h2] at this
    have e : a.put o.dst undef = a := by simp [hd, Act.put]
    rw [e] at this
    exact this
  refine Win.hire rfl (fun _ => gr (b.at a (.inRegion ops rest :: k)) cs) (fun _ => born P dd) (fun d => w.at d) (fun _ => #[]) (fun _ => s') (fun _ => n) hst (fun _ => by simp) (fun d => floor_at d hf)
    (fun d => ⟨reads_like (like_w hl w.tape d) hs.reads, open0_like (like_w hl w.tape d) hs.chan, hs.own⟩) (fun _ => hway) (fun d => ?_)
  refine h hc _ (like_w hl w.tape d) ⟨fun i' s₁ hi p hp => ?_, fun i' s₁ hi => ?_⟩
  · show w.cell? p.1 = some p.2
    change (C.I.set C.h (some s')) i' = some s₁ at hi
    unfold Seats.set at hi
    split at hi
    · cases hi; exact reads_like hl hs.reads p hp
    · exact hf.reads i' s₁ hi p hp
  · change (C.I.set C.h (some s')) i' = some s₁ at hi
    unfold Seats.set at hi
    split at hi
    · cases hi; exact open0_like hl hs.chan
    · exact hf.chans i' s₁ hi
end
end Go.Proofs.Ytoabkcalphpkhaa

/- The holder enters functions and comes back from them: calls, deferred calls, recover. No program in sight. -/
namespace Go.Proofs.Ytoabkcalphpkhaa
open Go Go.Conc
set_option linter.unusedVariables false
set_option linter.unusedSimpArgs false
set_option linter.unusedSectionVars false

section
variable {P : Program} {C : Ctx P} {cs : List Frame} {u : World} {b : Frame} {a : Act} {k : List Item} {ops : Array Oper} {i : Nat} {rest : List Nat} {o : Oper} {fr : Frame}

/-- A step that lists nothing and leaves the world as it is. -/
theorem Wn.ctl_ {fr' : Frame} {cs' : List Frame} (h : ∀ main w, stepG P main (gr fr cs) w = .go (gr fr' cs') w #[]) (hn : Wn C fr' cs' u) : Wn C fr cs u := Wn.ctl h hn

theorem step_apply (main : Bool) (w : World) (hb : b.kind ≠ .early) (ho : ops[i]? = some o) (hw : Region.wanted o (yielded ops a.tmps) = true) :
    stepG P main (gr (b.at a (.inRegion ops (i :: rest) :: k)) cs) w = stepG.apply P true (b.at a (.inRegion ops (i :: rest) :: k)) cs none (execOp a.eval o) w := stepG_oper ho hw

/-- A call of whatever function: its frame is laid on top. -/
theorem Wn.call (hb : b.kind ≠ .early) (ho : ops[i]? = some o) (hw : Region.wanted o (yielded ops a.tmps) = true) {f : FuncId} {args : Array Value} (hr : ∀ w, (execOp a.eval o).runT P w #[] = (.ok (.enter f args) w, #[]))
    (h : Wn C (Frame.enter P f args .normal) (b.at a (.inRegion ops (i :: rest) :: k) :: cs) u) : Wn C (b.at a (.inRegion ops (i :: rest) :: k)) cs u := by
  have hke : (b.kind == CallKind.early) = false := by simpa using hb
  refine Wn.ctl_ (fun main w => ?_) h
  rw [step_apply main w hb ho hw]
  simp [-Sem.runT_eq, stepG.apply, hr w, Frame.at, hke, GStep.after, gr, seen_none]

/-- A deferred call is laid by. -/
theorem Wn.defer (hb : b.kind ≠ .early) (hro : b.roundOf = none) (ho : ops[i]? = some o) (hw : Region.wanted o (yielded ops a.tmps) = true) (hd : o.dst = none) {dd : Deferred} (hr : ∀ w, (execOp a.eval o).runT P w #[] = (.ok (.defer dd) w, #[]))
    (h : Wn C (b.at { a with defers := dd :: a.defers } (.inRegion ops rest :: k)) cs u) : Wn C (b.at a (.inRegion ops (i :: rest) :: k)) cs u := by
  have hke : (b.kind == CallKind.early) = false := by simpa using hb
  refine Wn.ctl_ (fun main w => ?_) h
  rw [step_apply main w hb ho hw]
  have hfin : ({ b.at a (.inRegion ops (i :: rest) :: k) with defers := dd :: a.defers } : Frame).finish undef = b.at { a with defers := dd :: a.defers } (.inRegion ops rest :: k) := by
    have := Frame.finish_at b { a with defers := dd :: a.defers } ops i rest k undef
    rw [ho] at this
    simp only [Option.bind_some, hd, Act.put] at this
    exact this
  rw [← hfin]
  simp [-Sem.runT_eq, stepG.apply, hr w, Frame.at, hke, GStep.after, gr, seen_none]

/-- recover, where nobody panics. -/
theorem Wn.recover_none (hb : b.kind ≠ .early) (ho : ops[i]? = some o) (hw : Region.wanted o (yielded ops a.tmps) = true) (hr : ∀ w, (execOp a.eval o).runT P w #[] = (.ok .recover w, #[]))
    (ht : tryRecover (b.at a (.inRegion ops (i :: rest) :: k)) cs = none) (h : Wn C (b.at (a.put o.dst .nilIface) (.inRegion ops rest :: k)) cs u) : Wn C (b.at a (.inRegion ops (i :: rest) :: k)) cs u := by
  have hke : (b.kind == CallKind.early) = false := by simpa using hb
  refine Wn.ctl_ (fun main w => ?_) h
  rw [step_apply main w hb ho hw]
  have hfin : (b.at a (.inRegion ops (i :: rest) :: k)).finish .nilIface = b.at (a.put o.dst .nilIface) (.inRegion ops rest :: k) := by rw [Frame.finish_at, ho]; rfl
  rw [← hfin]
  have hro : (b.at a (.inRegion ops (i :: rest) :: k)).roundOf = none := rfl
  have hk2 : (b.at a (.inRegion ops (i :: rest) :: k)).kind = b.kind := rfl
  simp only [stepG.apply, hr w, hro, ht, hk2, hke]
  simp [GStep.after, seen_none, gr, Frame.at]

/-- Back to the caller. -/
theorem Wn.back {fn : Func} {todo : List Item} {c : Frame} {v : Value} (hk : b.kind = .normal) (hd : a.defers = []) (hf : P.funcs[b.fn]? = some fn) (hr : (results fn a.tmps).run P u = .ok v u) (h : Wn C (c.finish v) cs u) :
    Wn C { b.at a todo with mode := .returning } (c :: cs) u := Wn.leave ⟨rfl, hd, hk, fn, hf, hr⟩ h

/-- A frame on its way out makes a deferred call. -/
theorem Wn.unwinds (hm : fr.mode ≠ .run) {dd : Deferred} {ds : List Deferred} (hd : fr.defers = dd :: ds) {g : Fn} {caps : Array Value} (ht : dd.target = .fn g caps) {f : FuncId} {args : Array Value}
    (hr : ∀ w, (invoke dd.target dd.args).runT P w #[] = (.ok (.enter f args) w, #[])) (h : Wn C (Frame.enter P f args .deferred) ({ fr with defers := ds } :: cs) u) : Wn C fr cs u := by
  refine Wn.ctl_ (fun main w => ?_) h
  obtain ⟨tgt, args'⟩ := dd
  simp only at ht
  subst ht
  have h1 := hr w
  simp only at h1
  have e : stepG P main (gr fr cs) w = unwind P main fr cs none w := by
    obtain ⟨fn, tmps, todo, defers, mode, kind, ro⟩ := fr
    cases mode with
    | run => exact absurd rfl hm
    | returning => rfl
    | panicking ch => rfl
  rw [e]
  unfold unwind
  rw [hd]
  simp only [callDeferred, h1]
  simp [GStep.after, seen_none, gr]
end
end Go.Proofs.Ytoabkcalphpkhaa

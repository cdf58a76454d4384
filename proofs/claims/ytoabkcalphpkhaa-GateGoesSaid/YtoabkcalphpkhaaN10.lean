/- Merged: Seg, Tool. -/
import Derived.Test.YtoabkcalphpkhaaN08
import Derived.Conc.AtomicLaws2
/- Plain code in the midst of a frame: what the lone machine's laws tell of it holds of it wherever it stands. No program in sight. -/
namespace Go.Proofs.Ytoabkcalphpkhaa
open Go Go.Conc
set_option linter.unusedVariables false
set_option linter.unusedSimpArgs false
set_option linter.unusedSectionVars false

/-- What a frame has behind it. -/
structure Beh where
  k : List Item
  ds : List Deferred
  kd : CallKind
def Beh.app (β : Beh) (fr : Frame) : Frame := { fr with todo := fr.todo ++ β.k, defers := β.ds, kind := β.kd }
def topB (β : Beh) (fr : Frame) : List Frame → Frame
  | [] => β.app fr
  | _ :: _ => fr
def restB (β : Beh) : List Frame → List Frame
  | [] => []
  | c :: X => topB β c X :: restB β X
def busy (c : Frame) : Prop := ∃ ops i rest k, c.todo = .inRegion ops (i :: rest) :: k

structure StepsB (P : Program) (fz : Bool) (S : FuncId → Bool) (Gd : Guard) (β : Beh) (fr : Frame) (u w : World) (τ : Nat → Question → Nat) (d : Nat) (fr' : Frame) (Z : List Frame) (m : Nat) (u' w' : World) (es : Array Event) : Prop where
  ok : ∀ X, (∀ c ∈ X, FrOk P fz S c ∧ c.mode = .run) → StOk P fz S fr' (Z ++ X)
  busy : ∀ c ∈ Z, busy c
  like : Like Gd w' u'
  keeps : Keeps Gd w w'
  evs : ∀ e ∈ es, EvOk Gd e
  plain : ∀ (τ' : Nat → Question → Nat) (d' : Nat) (main : Bool) (cs : List Frame), (∀ j, j < m → τ' (d' + j) = τ (d + j)) → stepG P main (gr fr cs) (w.on τ' d') = .go (gr fr' (Z ++ cs)) (w'.on τ' (d' + m)) es
  more : fr.todo ≠ [] → fr'.mode = .run → ∀ (τ' : Nat → Question → Nat) (d' : Nat) (main : Bool) (cs : List Frame), (∀ j, j < m → τ' (d' + j) = τ (d + j)) → stepG P main (gr (β.app fr) cs) (w.on τ' d') = .go (gr (topB β fr' Z) (restB β Z ++ cs)) (w'.on τ' (d' + m)) es
  lone : ∀ (τ' : Nat → Question → Nat) (d' : Nat) (main : Bool) (cs : List Frame), (∀ j, j < m → τ' (d' + j) = τ (d + j)) → ∃ es', stepG P main (gr fr cs) (u.on τ' d') = .go (gr fr' (Z ++ cs)) (u'.on τ' (d' + m)) es'
  ret : fr'.mode = .returning → fr.mode = .run → Z = [] ∧ fr'.todo = fr.todo

section
variable {P : Program} {fz : Bool} {S : FuncId → Bool} {Gd : Guard} {fr : Frame} {X : List Frame} {u w : World} {τ : Nat → Question → Nat} {d : Nat} {β : Beh}

/-- A step, or nothing comes of it, whoever called. -/
def StepOr (P : Program) (fz : Bool) (S : FuncId → Bool) (Gd : Guard) (β : Beh) (fr : Frame) (u w : World) (τ : Nat → Question → Nat) (d : Nat) : Prop :=
  (∃ fr' Z m u' w' es, StepsB P fz S Gd β fr u w τ d fr' Z m u' w' es) ∨ ∀ X, (∀ c ∈ X, FrOk P fz S c ∧ c.mode = .run) → NeverDone P (lone fr (X ++ [poison P]) (u.on τ d))

theorem exitTo_app {id : Nat} : ∀ {k k' : List Item} (k₂ : List Item), exitTo id k = some k' → exitTo id (k ++ k₂) = some (k' ++ k₂)
  | [], k', k₂, h => by simp [exitTo] at h
  | x :: k, k', k₂, h => by
    cases x with
    | inBlock i =>
      simp only [exitTo, List.cons_append] at h ⊢
      split at h
      · rename_i e; cases h; rw [if_pos e]
      · rename_i e; rw [if_neg e]; exact exitTo_app k₂ h
    | _ => exact exitTo_app (k := k) k₂ (by simpa only [exitTo] using h)
theorem gotoIn_app {l : Nat} : ∀ {k k' : List Item} (k₂ : List Item), gotoIn l k = some k' → gotoIn l (k ++ k₂) = some (k' ++ k₂)
  | [], k', k₂, h => by simp [gotoIn] at h
  | x :: k, k', k₂, h => by
    cases x with
    | inScope body =>
      simp only [gotoIn, List.cons_append] at h ⊢
      split at h
      · rename_i y hy; cases h; simp
      · rename_i e; exact gotoIn_app k₂ h
    | _ => exact gotoIn_app (k := k) k₂ (by simpa only [gotoIn] using h)

/-- A move of control: the world stands. -/
theorem ctlB {fr' : Frame} (hok : FrOk P fz S fr') (hm : fr'.mode = .run) (hl : Like Gd w u) (h : ∀ main cs w, stepG P main (gr fr cs) w = .go (gr fr' cs) w) (h' : ∀ main cs w, stepG P main (gr (β.app fr) cs) w = .go (gr (β.app fr') cs) w) : StepOr P fz S Gd β fr u w τ d :=
  .inl ⟨fr', [], 0, u, w, #[], fun X hX => ⟨hok, .inl hm, hX⟩, by simp, hl, .refl _ _, by simp, fun τ' d' main cs _ => h main _ _, fun _ _ τ' d' main cs _ => h' main _ _, fun τ' d' main cs _ => ⟨_, h main _ _⟩, fun h => by rw [hm] at h; cases h⟩
theorem ctlR {fr' : Frame} (hok : FrOk P fz S fr') (hm : fr'.mode = .returning) (ht : fr'.todo = fr.todo) (hl : Like Gd w u) (h : ∀ main cs w, stepG P main (gr fr cs) w = .go (gr fr' cs) w) : StepOr P fz S Gd β fr u w τ d :=
  .inl ⟨fr', [], 0, u, w, #[], fun X hX => ⟨hok, .inr hm, hX⟩, by simp, hl, .refl _ _, by simp, fun τ' d' main cs _ => h main _ _, fun _ e => (by rw [hm] at e; cases e), fun τ' d' main cs _ => ⟨_, h main _ _⟩, fun _ _ => ⟨rfl, ht⟩⟩
theorem deadB (hmode : fr.mode = .run) {oc : Outcome} {w₁ : World} (h : ∀ cs, (stepG P true (gr fr cs) (u.on τ d)).bare = .ended oc w₁) : StepOr P fz S Gd β fr u w τ d :=
  .inr fun X hX => dead_ended (by rw [hmode]; rintro ⟨_, h⟩; cases h) (h _)

theorem app_finish {ops : Array Oper} {i : Nat} {rest : List Nat} {k : List Item} (htodo : fr.todo = .inRegion ops (i :: rest) :: k) (v : Value) : (β.app fr).finish v = β.app (fr.finish v) := by
  have h1 : (β.app fr).todo = .inRegion ops (i :: rest) :: (k ++ β.k) := by simp [Beh.app, htodo]
  unfold Frame.finish
  rw [h1, htodo]
  simp [Beh.app]

/-- An operation of plain code. -/
theorem step_operB (hS : ListOk P fz S) (hG : fz = false → ∀ b, Gd b = none) (hkd : β.kd ≠ .early) {fn : FuncId} {tmps : Array Value} {ops : Array Oper} {i : Nat} {rest : List Nat} {k : List Item} {o : Oper}
    (hf : FrOk P fz S { fn, tmps, todo := .inRegion ops (i :: rest) :: k, defers := [], mode := .run, kind := .normal, roundOf := none }) (hl : Like Gd w u)
    (ho : ops[i]? = some o) (hw : Region.wanted o (yielded ops tmps) = true) :
    StepOr P fz S Gd β { fn, tmps, todo := .inRegion ops (i :: rest) :: k, defers := [], mode := .run, kind := .normal, roundOf := none } u w τ d := by
  generalize hfr : ({ fn, tmps, todo := .inRegion ops (i :: rest) :: k, defers := [], mode := .run, kind := .normal, roundOf := none } : Frame) = fr at hf ⊢
  have hop : opOk P fz S o.op = true := by
    have := hf.todo (.inRegion ops (i :: rest)) (by rw [← hfr]; exact List.mem_cons_self ..)
    simp only [itemOk, Array.all_eq_true_iff_forall_mem] at this
    exact this o (Array.mem_of_getElem? ho)
  have ht := tame_exec (P := P) (fz := fz) (S := S) hS.bodied (ρ := fr.eval) (fun f => rfl) (fun v => rfl) hop
  have happ : ∀ (main : Bool) (cs : List Frame) (w : World), stepG P main (gr fr cs) w = stepG.apply P true fr cs none (execOp fr.eval o) w := by
    intro main cs w
    subst hfr
    simp [gr, stepG, stepG.exec, stepG.oper, Frame.oper?, ho, hw]
  have heval : (β.app fr).eval = fr.eval := by funext x; subst hfr; cases x <;> rfl
  have happB : ∀ (main : Bool) (cs : List Frame) (w : World), stepG P main (gr (β.app fr) cs) w = stepG.apply P true (β.app fr) cs none (execOp fr.eval o) w := by
    intro main cs w
    rw [← heval]
    subst hfr
    simp [Beh.app, gr, stepG, stepG.exec, stepG.oper, Frame.oper?, ho, hw]
  have hkind : (fr.kind == CallKind.early) = false := by rw [hf.kind]; rfl
  have hkindB : ((β.app fr).kind == CallKind.early) = false := by simpa [Beh.app] using hkd
  have htodo : fr.todo = .inRegion ops (i :: rest) :: k := by rw [← hfr]
  have htodoB : (β.app fr).todo = .inRegion ops (i :: rest) :: (k ++ β.k) := by simp [Beh.app, htodo]
  have hfin := fun v => finish_ok hf (by rw [← hfr]) v
  have hmode : fr.mode = .run := by rw [← hfr]
  have hnd : ∀ X : List Frame, ¬ (X = [] ∧ fr.mode = .returning) := fun X h => by rw [← hfr] at h; cases h.2
  have notret : ∀ v, (fr.finish v).mode ≠ .returning := fun v h => by rw [(hfin v).2] at h; cases h
  have hfnB : (β.app fr).fn = fr.fn := rfl
  cases hr : (execOp fr.eval o).run P (u.on τ d) with
  | ok a U' =>
    obtain ⟨hleaf, m, u', w', es, e1, e2, e3, e4, e5, e6⟩ := ht.sim2 hG hl hr
    have val : ∀ v, ((∀ (τ' : Tp) (d' : Nat), (∀ j, j < m → τ' (d' + j) = τ (d + j)) → ∀ main cs, stepG P main (gr fr cs) (w.on τ' d') = .go (gr (fr.finish v) cs) (w'.on τ' (d' + m)) (seen P fr.fn es)) ∧
        (∀ (τ' : Tp) (d' : Nat), (∀ j, j < m → τ' (d' + j) = τ (d + j)) → ∀ main cs, stepG P main (gr (β.app fr) cs) (w.on τ' d') = .go (gr (β.app (fr.finish v)) cs) (w'.on τ' (d' + m)) (seen P fr.fn es)) ∧
        (∀ (τ' : Tp) (d' : Nat), (∀ j, j < m → τ' (d' + j) = τ (d + j)) → ∀ main cs, ∃ es', stepG P main (gr fr cs) (u.on τ' d') = .go (gr (fr.finish v) cs) (u'.on τ' (d' + m)) es')) → StepOr P fz S Gd β fr u w τ d := by
      rintro v ⟨h1, h2, h3⟩
      exact .inl ⟨fr.finish v, [], m, u', w', seen P fr.fn es, fun X hX => ⟨(hfin v).1, .inl (hfin v).2, hX⟩, by simp, e2, e3, fun e he => e4 e (mem_seen he), fun τ' d' main cs hj => h1 τ' d' hj main cs,
        fun _ _ τ' d' main cs hj => h2 τ' d' hj main cs, fun τ' d' main cs hj => h3 τ' d' hj main cs, fun h => absurd h (notret v)⟩
    cases a with
    | value v =>
      refine val v ⟨fun τ' d' hj main cs => ?_, fun τ' d' hj main cs => ?_, fun τ' d' hj main cs => ?_⟩
      · have := e5 τ' d' hj
        rw [happ]
        simp [-Sem.runT_eq, stepG.apply, this, hkind, GStep.after, gr]
      · have := e5 τ' d' hj
        rw [happB, ← app_finish htodo]
        simp [-Sem.runT_eq, stepG.apply, this, hkindB, GStep.after, gr, hfnB]
      · obtain ⟨es', this⟩ := e6 τ' d' hj
        rw [happ]
        exact ⟨seen P fr.fn es', by simp [-Sem.runT_eq, stepG.apply, this, hkind, GStep.after, gr]⟩
    | skip =>
      refine val undef ⟨fun τ' d' hj main cs => ?_, fun τ' d' hj main cs => ?_, fun τ' d' hj main cs => ?_⟩
      · have := e5 τ' d' hj
        rw [happ]
        simp [-Sem.runT_eq, stepG.apply, this, hkind, GStep.after, gr]
      · have := e5 τ' d' hj
        rw [happB, ← app_finish htodo]
        simp [-Sem.runT_eq, stepG.apply, this, hkindB, GStep.after, gr, hfnB]
      · obtain ⟨es', this⟩ := e6 τ' d' hj
        rw [happ]
        exact ⟨seen P fr.fn es', by simp [-Sem.runT_eq, stepG.apply, this, hkind, GStep.after, gr]⟩
    | enter f args =>
      have hfS : S f = true := hleaf
      have henter := (enter_ok hS hfS args).top
      refine .inl ⟨Frame.enter P f args .normal, [fr], m, u', w', seen P fr.fn es, fun X hX => ⟨henter, .inl rfl, ?_⟩, ?_, e2, e3, fun e he => e4 e (mem_seen he), ?_, ?_, ?_, fun h => by cases h⟩
      · intro x hx
        rcases List.mem_cons.1 hx with rfl | hx
        · exact ⟨hf, hmode⟩
        · exact hX x hx
      · intro c hc
        rw [List.mem_singleton] at hc
        subst hc
        exact ⟨_, _, _, _, htodo⟩
      · intro τ' d' main cs hj
        have := e5 τ' d' hj
        rw [happ]
        simp [-Sem.runT_eq, stepG.apply, this, hkind, GStep.after, gr, htodo]
      · intro _ _ τ' d' main cs hj
        have := e5 τ' d' hj
        rw [happB]
        simp [-Sem.runT_eq, stepG.apply, this, hkindB, GStep.after, gr, htodoB, hfnB, topB, restB]
      · intro τ' d' main cs hj
        obtain ⟨es', this⟩ := e6 τ' d' hj
        rw [happ]
        exact ⟨seen P fr.fn es', by simp [-Sem.runT_eq, stepG.apply, this, hkind, GStep.after, gr, htodo]⟩
    | _ => exact hleaf.elim
  | halt hh U' =>
    have hok := ht.halts hr
    have hrt : ((execOp fr.eval o).runT P (u.on τ d) #[]).1 = .halt hh U' := by rw [Sem.runT_fst]; exact hr
    generalize hq : (execOp fr.eval o).runT P (u.on τ d) #[] = q at hrt
    obtain ⟨q1, q2⟩ := q
    simp only at hrt
    subst hrt
    have hst := fun cs => happ true cs (u.on τ d)
    cases hh with
    | panic v =>
      refine .inr fun X hX => ?_
      have hb : (stepG P true (gr fr (X ++ [poison P])) (u.on τ d)).bare = .go (gr (fr.raise [{ v, recovered := false }]) (X ++ [poison P])) U' := by
        rw [hst]
        simp [-Sem.runT_eq, stepG.apply, hq, GStep.after, GStep.bare, gr]
      obtain ⟨⟨ch, hch⟩, hcd⟩ := raise_panics fr [{ v, recovered := false }]
      refine neverDone_next (step_lone_go hb) (dead_panic X _ ch U' (fun c hc => (hX c hc).1.defers) hch (by rw [hcd, hf.defers])) fun fr' w' e hm => ?_
      obtain ⟨rfl, hXe, _⟩ := lone_inj e
      rw [← hfr] at hm
      simp at hm
    | unsupported un =>
      by_cases hun : ∃ g, un = .initOrder g
      · obtain ⟨g, rfl⟩ := hun
        refine deadB hmode (oc := .unsupported (.initOrder g) (fr.pos P)) (w₁ := U') fun cs => ?_
        rw [hst]
        simp [-Sem.runT_eq, stepG.apply, hq, early, hS.ahead, hS.ready g, GStep.after, GStep.bare]
      · refine deadB hmode (oc := .unsupported un (fr.pos P)) (w₁ := U') fun cs => ?_
        rw [hst]
        cases un <;> first
          | exact absurd ⟨_, rfl⟩ hun
          | simp [-Sem.runT_eq, stepG.apply, hq, GStep.after, GStep.bare]
    | stuck st =>
      refine deadB hmode (oc := .stuck st (fr.pos P)) (w₁ := U') fun cs => ?_
      rw [hst]
      simp [-Sem.runT_eq, stepG.apply, hq, GStep.after, GStep.bare]
    | _ => exact hok.elim

theorem step_runB (hS : ListOk P fz S) (hG : fz = false → ∀ b, Gd b = none) (hkd : β.kd ≠ .early) (hf : FrOk P fz S fr) (hmode : fr.mode = .run) (hl : Like Gd w u) : StepOr P fz S Gd β fr u w τ d := by
  obtain ⟨fn, tmps, todo, defers, mode, kind, roundOf⟩ := fr
  obtain rfl : mode = .run := hmode
  obtain rfl : defers = [] := hf.defers
  obtain rfl : kind = .normal := hf.kind
  obtain rfl : roundOf = none := hf.round
  have mk : ∀ todo', (∀ i ∈ todo', itemOk P fz S i = true) → FrOk P fz S { fn, tmps, todo := todo', defers := [], mode := .run, kind := .normal, roundOf := none } := fun todo' h => ⟨h, rfl, rfl, rfl⟩
  have mkr : FrOk P fz S { fn, tmps, todo, defers := [], mode := .returning, kind := .normal, roundOf := none } := ⟨hf.todo, rfl, rfl, rfl⟩
  cases todo with
  | nil => exact ctlR mkr rfl rfl hl fun main cs w => by simp [stepG, stepG.exec]
  | cons x k =>
    have hx : itemOk P fz S x = true := hf.todo x (List.mem_cons_self ..)
    have hk : ∀ i ∈ k, itemOk P fz S i = true := fun i hi => hf.todo i (List.mem_cons_of_mem _ hi)
    have two : ∀ (a b : Item), itemOk P fz S a = true → itemOk P fz S b = true → ∀ i ∈ a :: b :: k, itemOk P fz S i = true := by
      intro a b ha hb i hi
      rcases List.mem_cons.1 hi with rfl | hi
      · exact ha
      · rcases List.mem_cons.1 hi with rfl | hi
        · exact hb
        · exact hk i hi
    have one : ∀ (a : Item), itemOk P fz S a = true → ∀ i ∈ a :: k, itemOk P fz S i = true := by
      intro a ha i hi
      rcases List.mem_cons.1 hi with rfl | hi
      · exact ha
      · exact hk i hi
    cases x with
    | code c =>
      cases c with
      | skip => exact ctlB (mk k hk) rfl hl (fun main cs w => by simp [stepG, stepG.exec]) (fun main cs w => by simp [Beh.app, stepG, stepG.exec])
      | label l => exact ctlB (mk k hk) rfl hl (fun main cs w => by simp [stepG, stepG.exec]) (fun main cs w => by simp [Beh.app, stepG, stepG.exec])
      | seq a b =>
        have h2 := hx
        simp only [itemOk, codeOk, Bool.and_eq_true] at h2
        exact ctlB (mk (.code a :: .code b :: k) (two _ _ h2.1 h2.2)) rfl hl (fun main cs w => by simp [stepG, stepG.exec]) (fun main cs w => by simp [Beh.app, stepG, stepG.exec])
      | cond c a b =>
        have h2 := hx
        simp only [itemOk, codeOk, Bool.and_eq_true] at h2
        generalize hc : (Frame.eval { fn, tmps, todo := .code (.cond c a b) :: k, defers := [], mode := .run, kind := .normal, roundOf := none } c) = v
        have hcB : Frame.eval { fn, tmps, todo := .code (.cond c a b) :: (k ++ β.k), defers := β.ds, mode := .run, kind := β.kd, roundOf := none } c = v := by rw [← hc]; cases c <;> rfl
        by_cases hb : ∃ t, v = .bool t
        · obtain ⟨t, rfl⟩ := hb
          refine ctlB (mk (.code (if t then a else b) :: k) (one _ ?_)) rfl hl (fun main cs w => by simp [stepG, stepG.exec, hc]) (fun main cs w => by simp [Beh.app, stepG, stepG.exec, hcB])
          cases t
          · exact h2.2
          · exact h2.1
        · refine deadB rfl (oc := .stuck "cond: bool expected" (Frame.pos P { fn, tmps, todo := .code (.cond c a b) :: k, defers := [], mode := .run, kind := .normal, roundOf := none })) (w₁ := u.on τ d) fun cs => ?_
          simp only [stepG, stepG.exec, hc]
          cases v <;> first
            | exact absurd ⟨_, rfl⟩ hb
            | rfl
      | block id c => exact ctlB (mk (.code c :: .inBlock id :: k) (two _ _ hx rfl)) rfl hl (fun main cs w => by simp [stepG, stepG.exec]) (fun main cs w => by simp [Beh.app, stepG, stepG.exec])
      | loop c => exact ctlB (mk (.code c :: .inLoop c :: k) (two _ _ hx hx)) rfl hl (fun main cs w => by simp [stepG, stepG.exec]) (fun main cs w => by simp [Beh.app, stepG, stepG.exec])
      | scope c => exact ctlB (mk (.code c :: .inScope c :: k) (two _ _ hx hx)) rfl hl (fun main cs w => by simp [stepG, stepG.exec]) (fun main cs w => by simp [Beh.app, stepG, stepG.exec])
      | rangeFunc f ps a b => cases hx
      | exit id =>
        cases he : exitTo id k with
        | some k' =>
          have heB := exitTo_app β.k he
          exact ctlB (mk k' (exitTo_ok hk he)) rfl hl (fun main cs w => by simp [stepG, stepG.exec, he]) (fun main cs w => by simp [Beh.app, stepG, stepG.exec, heB])
        | none =>
          refine deadB rfl (oc := .stuck "exit, goto: no such block or label" (Frame.pos P { fn, tmps, todo := .code (.exit id) :: k, defers := [], mode := .run, kind := .normal, roundOf := none })) (w₁ := u.on τ d) fun cs => ?_
          simp [stepG, stepG.exec, he, GStep.bare]
      | goto l =>
        cases he : gotoIn l k with
        | some k' =>
          have heB := gotoIn_app β.k he
          exact ctlB (mk k' (gotoIn_ok hk he)) rfl hl (fun main cs w => by simp [stepG, stepG.exec, he]) (fun main cs w => by simp [Beh.app, stepG, stepG.exec, heB])
        | none =>
          refine deadB rfl (oc := .stuck "exit, goto: no such block or label" (Frame.pos P { fn, tmps, todo := .code (.goto l) :: k, defers := [], mode := .run, kind := .normal, roundOf := none })) (w₁ := u.on τ d) fun cs => ?_
          simp [stepG, stepG.exec, he, GStep.bare]
      | ret => exact ctlR mkr rfl rfl hl fun main cs w => by simp [stepG, stepG.exec]
      | refuse why =>
        refine deadB rfl (oc := .unsupported (Unsupported.elab why) (Frame.pos P { fn, tmps, todo := .code (.refuse why) :: k, defers := [], mode := .run, kind := .normal, roundOf := none })) (w₁ := u.on τ d) fun cs => ?_
        simp [stepG, stepG.exec, GStep.bare]
      | region id ops draw =>
        cases draw with
        | false => exact ctlB (mk (.inRegion ops (List.range ops.size) :: k) (one _ hx)) rfl hl (fun main cs w => by simp [stepG, stepG.exec]) (fun main cs w => by simp [Beh.app, stepG, stepG.exec])
        | true =>
          have ht := tame_choose (P := P) (fz := fz) (.order fn id)
          have hr : ∃ t U', (choose (.order fn id)).run P (u.on τ d) = .ok t U' := by
            simp only [choose, Sem.run]
            split <;> exact ⟨_, _, rfl⟩
          obtain ⟨t, U', hr⟩ := hr
          obtain ⟨_, m, u', w', es, e1, e2, e3, e4, e5, e6⟩ := ht.sim2 hG hl hr
          refine .inl ⟨{ fn, tmps, todo := .inRegion ops (Region.schedule (P.follows .mixedOrders) ops t) :: k, defers := [], mode := .run, kind := .normal, roundOf := none }, [], m, u', w', #[], fun X hX => ⟨mk _ (one _ hx), .inl rfl, hX⟩, by simp, e2, e3, by simp, ?_, ?_, ?_, fun h => by cases h⟩
          · intro τ' d' main cs hj
            have := e5 τ' d' hj
            have h1 : (choose (.order fn id)).run P (w.on τ' d') = .ok t (w'.on τ' (d' + m)) := by rw [← Sem.runT_fst P _ _ #[], this]
            simp [stepG, stepG.exec, h1]
          · intro _ _ τ' d' main cs hj
            have := e5 τ' d' hj
            have h1 : (choose (.order fn id)).run P (w.on τ' d') = .ok t (w'.on τ' (d' + m)) := by rw [← Sem.runT_fst P _ _ #[], this]
            simp [Beh.app, topB, restB, stepG, stepG.exec, h1]
          · intro τ' d' main cs hj
            obtain ⟨es', this⟩ := e6 τ' d' hj
            have h1 : (choose (.order fn id)).run P (u.on τ' d') = .ok t (u'.on τ' (d' + m)) := by rw [← Sem.runT_fst P _ _ #[], this]
            exact ⟨#[], by simp [stepG, stepG.exec, h1]⟩
    | inBlock id => exact ctlB (mk k hk) rfl hl (fun main cs w => by simp [stepG, stepG.exec]) (fun main cs w => by simp [Beh.app, stepG, stepG.exec])
    | inScope c => exact ctlB (mk k hk) rfl hl (fun main cs w => by simp [stepG, stepG.exec]) (fun main cs w => by simp [Beh.app, stepG, stepG.exec])
    | inLoop c => exact ctlB (mk (.code c :: .inLoop c :: k) (two _ _ hx hx)) rfl hl (fun main cs w => by simp [stepG, stepG.exec]) (fun main cs w => by simp [Beh.app, stepG, stepG.exec])
    | inRegion ops l =>
      cases l with
      | nil => exact ctlB (mk k hk) rfl hl (fun main cs w => by simp [stepG, stepG.exec]) (fun main cs w => by simp [Beh.app, stepG, stepG.exec])
      | cons i rest =>
        cases ho : ops[i]? with
        | none =>
          obtain ⟨h1, h2⟩ := finish_ok hf rfl undef
          refine ctlB h1 h2 hl (fun main cs w => by simp [stepG, stepG.exec, ho]) (fun main cs w => ?_)
          rw [← app_finish rfl]
          simp [Beh.app, stepG, stepG.exec, ho]
        | some o =>
          cases hw : Region.wanted o (yielded ops tmps) with
          | true => exact step_operB hS hG hkd hf hl ho hw
          | false =>
            obtain ⟨h1, h2⟩ := finish_ok hf rfl undef
            refine ctlB h1 h2 hl (fun main cs w => by simp [stepG, stepG.exec, ho, hw]) (fun main cs w => ?_)
            rw [← app_finish rfl]
            simp [Beh.app, stepG, stepG.exec, ho, hw]
    | _ => cases hx
end

section
variable {P : Program} {C : Ctx P} {fr : Frame} {cs : List Frame} {X : List Frame} {u w : World} {β : Beh}

theorem restB_app {β : Beh} : ∀ (Z : List Frame) (c : Frame) (X : List Frame), restB β (Z ++ c :: X) = Z ++ restB β (c :: X)
  | [], _, _ => rfl
  | z :: Z, c, X => by
    have e : topB β z (Z ++ c :: X) = z := by cases Z <;> rfl
    rw [List.cons_append, restB, e, restB_app Z c X, List.cons_append]
theorem top_finish {c : Frame} {X : List Frame} (hb : busy c) (v : Value) : (topB β c X).finish v = topB β (c.finish v) X := by
  cases X with
  | nil => obtain ⟨_, _, _, _, h⟩ := hb; exact app_finish h v
  | cons _ _ => rfl

/-- Plain code ahead of whatever is behind it. -/
theorem wn_of_bars_seg (hkd : β.kd ≠ .early) {R : Frame → World → Prop} (hB : Bars P C.fz C.S R fr X u) (hR : ∀ fr' u', R fr' u' → fr'.todo = [] ∧ Wn C (β.app { fr' with mode := .run }) cs u') :
    (∀ c ∈ X, busy c) → ((X = [] ∧ fr.mode = .returning) → fr.todo = [] ∧ Wn C (β.app { fr with mode := .run }) cs u) ∧ (¬ (X = [] ∧ fr.mode = .returning) → Wn C (topB β fr X) (restB β X ++ cs) u) := by
  induction hB with
  | done hm h => exact fun _ => ⟨fun _ => hR _ _ h, fun hno => absurd ⟨rfl, hm⟩ hno⟩
  | @more fr X u hok hnd hl h ih =>
    intro hbX
    refine ⟨fun h' => absurd h' hnd, fun _ => ?_⟩
    rcases hok.mode with hmode | hmode
    · -- it runs
      by_cases hend : X = [] ∧ fr.todo = []
      · obtain ⟨rfl, ht⟩ := hend
        have hst : ∀ main cs w, stepG P main (gr fr cs) w = .go (gr { fr with mode := .returning } cs) w := by
          intro main cs w
          obtain ⟨fn, tmps, todo, defers, mode, kind, roundOf⟩ := fr
          obtain rfl : mode = .run := hmode
          obtain rfl : roundOf = none := hok.top.round
          simp only at ht
          subst ht
          simp [stepG, stepG.exec]
        have := ih { fr with mode := .returning } [] u u.tape u.drawn 0 ⟨⟨hok.top.todo, hok.top.defers, hok.top.kind, hok.top.round⟩, .inr rfl, by simp⟩ (fun τ' d' main cs _ => ⟨_, hst main _ _⟩) (by simp)
        have h2 := (this.1 ⟨rfl, rfl⟩).2
        have e : ({ ({ fr with mode := .returning } : Frame) with mode := .run } : Frame) = fr := by
          obtain ⟨fn, tmps, todo, defers, mode, kind, roundOf⟩ := fr
          obtain rfl : mode = .run := hmode
          rfl
        rw [e] at h2
        exact h2
      · intro w hlk hf
        have hrunT : (topB β fr X).mode = .run := by cases X <;> exact hmode
        refine Win.go rfl fun d => ?_
        rcases step_runB (β := β) (τ := w.tape) (d := d) C.list C.thaw hkd hok.top hmode hlk with hst | hnv
        · obtain ⟨fr', Z, m, u', w', es, hs⟩ := hst
          have hok' := hs.ok X hok.below
          have hL : LStep P fr X u w.tape d fr' (Z ++ X) u' m := fun τ' d' main cs hj => by rw [List.append_assoc]; exact hs.lone τ' d' main (X ++ cs) hj
          have hbZ : ∀ c ∈ Z ++ X, busy c := fun c hc => (List.mem_append.1 hc).elim (hs.busy c) (hbX c)
          have hi := ih fr' (Z ++ X) u' w.tape d m hok' hL hbZ
          have hgo := h fr' (Z ++ X) u' w.tape d m hok' hL
          have hfl := floor_on (keeps_floor C.cover hs.keeps hf) w.tape (d + m)
          have hlk' := like_w hs.like w.tape (d + m)
          have hevs : ∀ e ∈ es, EvH C.I e := fun e he => evH_of C.cover (hs.evs e he)
          cases X with
          | nil =>
            have htn : fr.todo ≠ [] := fun e => hend ⟨rfl, e⟩
            rw [List.append_nil] at hi hgo hok'
            rcases hok'.mode with hm' | hm'
            · refine ⟨_, _, _, hs.more htn hm' w.tape d (C.h == 0) cs (fun _ _ => rfl), hevs, hfl, hi.2 (by rw [hm']; rintro ⟨_, e⟩; cases e) _ hlk' hfl⟩
            · obtain ⟨rfl, ht⟩ := hs.ret hm' hmode
              have := (hi.1 ⟨rfl, hm'⟩).1
              exact absurd (ht.symm.trans this) htn
          | cons c X =>
            have e : topB β fr' (Z ++ c :: X) = fr' := by cases Z <;> rfl
            have e2 : restB β (Z ++ c :: X) = Z ++ restB β (c :: X) := restB_app Z c X
            refine ⟨_, _, _, hs.plain w.tape d (C.h == 0) (restB β (c :: X) ++ cs) (fun _ _ => rfl), hevs, hfl, ?_⟩
            have := hi.2 (by simp) _ hlk' hfl
            rw [e, e2, List.append_assoc] at this
            exact this
        · exact absurd (hnv X hok.below) (hl w.tape d)
    · -- it comes back
      cases X with
      | nil => exact absurd ⟨rfl, hmode⟩ hnd
      | cons c X =>
        intro w hlk hf
        refine Win.go rfl fun d => ?_
        have hc := hok.below c (List.mem_cons_self ..)
        have hbelow : ∀ x ∈ X, FrOk P C.fz C.S x ∧ x.mode = .run := fun x hx => hok.below x (List.mem_cons_of_mem _ hx)
        have hbc := hbX c (List.mem_cons_self ..)
        have hbX' : ∀ x ∈ X, busy x := fun x hx => hbX x (List.mem_cons_of_mem _ hx)
        have hk := hok.top.kind
        have hd := hok.top.defers
        have key : ∀ (v : Value) (m : Nat) (u' w' : World) (es : Array Event), Like C.Gd w' u' → Keeps C.Gd w w' → (∀ e ∈ es, EvOk C.Gd e) →
            (∀ (τ' : Tp) (d' : Nat) (main : Bool) (c : Frame) (cs : List Frame), (∀ j, j < m → τ' (d' + j) = w.tape (d + j)) → stepG P main (gr fr (c :: cs)) (w.on τ' d') = .go (gr (c.finish v) cs) (w'.on τ' (d' + m)) es) →
            (∀ (τ' : Tp) (d' : Nat) (main : Bool) (c : Frame) (cs : List Frame), (∀ j, j < m → τ' (d' + j) = w.tape (d + j)) → ∃ es', stepG P main (gr fr (c :: cs)) (u.on τ' d') = .go (gr (c.finish v) cs) (u'.on τ' (d' + m)) es') →
            ∃ g' w₁ es, stepG P (C.h == 0) (gr (topB β fr (c :: X)) (restB β (c :: X) ++ cs)) (w.at d) = .go g' w₁ es ∧ (∀ e ∈ es, EvH C.I e) ∧ Floor C.I w₁ ∧ Win P C.Post C.N C.h g' w₁ C.I := by
          intro v m u' w' es hl' hk' he hst hlo
          have hfl := floor_on (keeps_floor C.cover hk' hf) w.tape (d + m)
          have hi := ih (c.finish v) X u' w.tape d m ⟨(finish_ok hc.1 hc.2 v).1, .inl (finish_ok hc.1 hc.2 v).2, hbelow⟩ (fun τ' d' main cs hj => hlo τ' d' main c (X ++ cs) hj) hbX'
          have := hi.2 (by rintro ⟨_, e⟩; rw [(finish_ok hc.1 hc.2 v).2] at e; cases e) _ (like_w hl' w.tape (d + m)) hfl
          rw [← top_finish hbc] at this
          exact ⟨_, _, _, hst w.tape d (C.h == 0) (topB β c X) (restB β X ++ cs) (fun _ _ => rfl), fun e h' => evH_of C.cover (he e h'), hfl, this⟩
        cases hfn : P.funcs[fr.fn]? with
        | none =>
          refine key (fr.tmps.getD 0 undef) 0 u w #[] hlk (.refl _ _) (by simp) ?_ ?_
          · intro τ' d' main c cs _
            simp [stepG, hmode, unwind, hd, hfn, doReturn, hk, gr]
          · intro τ' d' main c cs _
            exact ⟨#[], by simp [stepG, hmode, unwind, hd, hfn, doReturn, hk, gr]⟩
        | some fn =>
          have ht := tame_results (P := P) (fz := C.fz) fn fr.tmps
          cases hr : (results fn fr.tmps).run P (u.on w.tape d) with
          | ok v U' =>
            obtain ⟨_, m, u', w', es, e1, e2, e3, e4, e5, e6⟩ := ht.sim2 C.thaw hlk hr
            refine key v m u' w' (seen P fr.fn es) e2 e3 (fun e he => e4 e (mem_seen he)) ?_ ?_
            · intro τ' d' main c cs hj
              have := e5 τ' d' hj
              simp only [stepG, hmode, unwind, hd, hfn, this, gr]
              simp [GStep.after, doReturn, hk]
            · intro τ' d' main c cs hj
              obtain ⟨es', this⟩ := e6 τ' d' hj
              simp only [stepG, hmode, unwind, hd, hfn, this, gr]
              exact ⟨seen P fr.fn es', by simp [GStep.after, doReturn, hk]⟩
          | halt hh U' =>
            refine absurd ?_ (hl w.tape d)
            have hrt : ((results fn fr.tmps).runT P (u.on w.tape d) #[]).1 = .halt hh U' := by rw [Sem.runT_fst]; exact hr
            generalize hq : (results fn fr.tmps).runT P (u.on w.tape d) #[] = q at hrt
            obtain ⟨q1, q2⟩ := q
            simp only at hrt
            subst hrt
            cases hh with
            | stuck s =>
              refine dead_ended hnd (oc := .stuck s (fr.pos P)) (w₁ := U') ?_
              simp only [stepG, hmode, unwind, hd, hfn, hq, gr]
              simp [GStep.after, GStep.bare]
            | _ =>
              refine dead_ended hnd (oc := .stuck "return: the result variables cannot be read" (fr.pos P)) (w₁ := U') ?_
              simp only [stepG, hmode, unwind, hd, hfn, hq, gr]
              simp [GStep.after, GStep.bare]

/-- Plain code, told by the lone machine's law of it upon every tape; it goes on behind it. -/
theorem Wn.seg {b : Frame} {a : Act} {k : List Item} {c : Code} {K : Act → World → Prop} (hkd : b.kind ≠ .early) (hok : codeOk P C.fz C.S c = true) (hKon : ∀ a u τ d, K a u → K a (u.on τ d))
    (h : ∀ τ d, c.wp P (Only K) { tmps := a.tmps, defers := [] } (u.on τ d)) (hn : ∀ a' u', K a' u' → Wn C (b.at { tmps := a'.tmps, defers := a.defers } k) cs u') : Wn C (b.at a (.code c :: k)) cs u := by
  let b0 : Frame := { b with kind := .normal }
  have hst : StOk P C.fz C.S (b0.at { tmps := a.tmps, defers := [] } [.code c]) [] := ⟨⟨fun x hx => by simp only [Frame.at, List.mem_singleton] at hx; subst hx; exact hok, rfl, rfl, rfl⟩, .inl rfl, by simp⟩
  have hB := bars (P := P) (fz := C.fz) (S := C.S) (R := fun fr' w' => ∃ a', fr' = { b0.at a' [] with mode := .returning } ∧ K a' w') C.list (fun fr w τ d ⟨a', h1, h2⟩ => ⟨a', h1, hKon _ _ _ _ h2⟩) hst (u := u) (fun τ d => by
    obtain ⟨e, a', w', hq, har⟩ := h τ d b0 [] [poison P]
    cases e with
    | normal =>
      obtain ⟨n, hn⟩ := har.trans (Steps.one step_end)
      exact ⟨n, _, w', hn, rfl, a', rfl, hq⟩
    | exit id => exact hq.elim
    | goto l => exact hq.elim
    | ret => exact hq.elim
    | panic ch => exact hq.elim
    | outgrown => exact hq.elim)
  have := (wn_of_bars_seg (C := C) (cs := cs) (β := ⟨k, a.defers, b.kind⟩) hkd hB (fun fr' u' ⟨a', h1, h2⟩ => by
    subst h1
    exact ⟨rfl, hn a' u' h2⟩) (by simp)).2 (by rintro ⟨_, e⟩; cases e)
  exact this
end
end Go.Proofs.Ytoabkcalphpkhaa

/- The holder's operations, in the forms in which the walks use them: spans told of one world; calls; atomic accesses. No program in sight. -/
namespace Go.Proofs.Ytoabkcalphpkhaa
open Go Go.Conc
set_option linter.unusedVariables false
set_option linter.unusedSimpArgs false
set_option linter.unusedSectionVars false

section
variable {P : Program} {C : Ctx P} {cs : List Frame} {b : Frame} {a : Act} {k : List Item} {ops : Array Oper} {u : World}

theorem span1_aux (hb : b.kind ≠ .early) : ∀ (os : List Oper) (n m : Nat) (a : Act) (u : World) (D : Nat) (K : Act → World → Prop), u.drawn = D → (∀ j o, os[j]? = some o → ops[n + j]? = some o) → os.length ≤ m → (os.all fun o => opOk P C.fz nobody o.op) = true →
    wpList P ops (Only fun a' u' => u'.drawn = D ∧ K a' u') os a u → (∀ a' u', K a' u' → Wn C (b.at a' (.inRegion ops (List.range' (n + os.length) (m - os.length)) :: k)) cs u') →
    Wn C (b.at a (.inRegion ops (List.range' n m) :: k)) cs u
  | [], n, m, a, u, D, K, _, _, _, _, h, hK => hK a u h.2
  | o :: os, n, m, a, u, D, K, hD, hat, hlen, hok, h, hK => by
    obtain ⟨m, rfl⟩ : ∃ m', m = m' + 1 := ⟨m - 1, by simp at hlen; omega⟩
    simp only [List.all_cons, Bool.and_eq_true] at hok
    simp only [List.length_cons] at hlen
    have ho : ops[n]? = some o := by simpa using hat 0 o rfl
    rw [List.range'_succ]
    have next : ∀ a₁ u₁, u₁.drawn = D → wpList P ops (Only fun a' u' => u'.drawn = D ∧ K a' u') os a₁ u₁ → Wn C (b.at a₁ (.inRegion ops (List.range' (n + 1) m) :: k)) cs u₁ := by
      intro a₁ u₁ h₀ h₁
      refine span1_aux hb os (n + 1) m a₁ u₁ D K h₀ (fun j o' hj => by have := hat (j + 1) o' (by simpa using hj); rw [show n + 1 + j = n + (j + 1) by omega]; exact this) (by omega) hok.2 h₁ fun a' u' hk => ?_
      have := hK a' u' hk
      simp only [List.length_cons] at this
      rw [show n + 1 + os.length = n + (os.length + 1) by omega, show m - os.length = m + 1 - (os.length + 1) by omega]
      exact this
    unfold wpList at h
    cases hw : Region.wanted o (yielded ops a.tmps) with
    | false =>
      rw [hw] at h
      exact .unwanted ho hw (next _ _ hD (by simpa using h))
    | true =>
      rw [hw] at h
      simp only [if_true] at h
      have h1 : o.wp P a u (wpList P ops (Only fun a' u' => u'.drawn = D ∧ K a' u') os) (Only fun a' u' => u'.drawn = D ∧ K a' u') := by
        rcases h with h | ⟨_, _, _, h⟩
        · exact h
        · exact h.elim
      have hok1 : opOk P C.fz nobody o.op = true := hok.1
      have hke : b.kind ≠ .early := hb
      have ht := tame_exec (P := P) (fz := C.fz) (S := nobody) (fun f hf => by cases hf) (ρ := a.eval) (act_const a).1 (act_const a).2 hok1
      unfold Oper.wp at h1
      cases hr : (execOp a.eval o).run P u with
      | halt hh U' => rw [hr] at h1; cases hh <;> exact h1.elim
      | ok x U' =>
        have hleaf := (ht.sim2 (G := fun _ => none) (fun _ _ => rfl) (τ := u.tape) (d := u.drawn) (Like.refl u) (by rw [on_self]; exact hr)).1
        obtain ⟨m0, e1⟩ : ∃ m0, U'.drawn = u.drawn + m0 := by
          obtain ⟨_, m0, u₁, _, _, e1, _⟩ := ht.sim2 (G := fun _ => none) (fun _ _ => rfl) (τ := u.tape) (d := u.drawn) (Like.refl u) (by rw [on_self]; exact hr)
          exact ⟨m0, by rw [e1]; rfl⟩
        rw [hr] at h1
        have hd : U'.drawn = u.drawn := by
          cases x with
          | value v =>
            obtain ⟨a', u'', ⟨h2, _⟩, h3⟩ := span_drawn C os _ U' _ hok.2 h1
            omega
          | skip =>
            obtain ⟨a', u'', ⟨h2, _⟩, h3⟩ := span_drawn C os _ U' _ hok.2 h1
            omega
          | enter f args => cases hleaf
          | _ => exact hleaf.elim
        intro w hl hf
        obtain ⟨w', es, e2, e3, e4, e5, e6⟩ := sim0 ht C.thaw hl hr hd
        refine Win.go rfl fun d => ?_
        have hrun : (execOp a.eval o).run P (w.at d) = .ok x (w'.on w.tape d) := by rw [on_at, ← Sem.runT_fst P _ _ #[], e5 w.tape d]
        have hev : ∀ e ∈ listed P b.fn a o (w.at d), EvH C.I e := by
          intro e he
          have h6 : (execOp a.eval o).events P (w.on w.tape d) #[] = es := by
            have := congrArg Prod.snd (e5 w.tape d)
            simpa using this
          unfold listed at he
          rw [on_at, h6] at he
          exact evH_of C.cover (e4 e (mem_seen he))
        have hfl := floor_on (keeps_floor C.cover e3 hf) w.tape d
        have hlk := like_w e2 w.tape d
        cases x with
        | value v => exact ⟨_, _, _, stepG_value ho hw hke hrun, hev, hfl, next _ U' (hd.trans hD) h1 _ hlk hfl⟩
        | skip => exact ⟨_, _, _, stepG_none ho hw hke hrun, hev, hfl, next _ U' (hd.trans hD) h1 _ hlk hfl⟩
        | enter f args => cases hleaf
        | _ => exact hleaf.elim

/-- The operations n, n + 1, .. of a region, j of them. -/
theorem Wn.span1 {l : List Oper} (n j m : Nat) (hb : b.kind ≠ .early) (hjm : j ≤ m) (hlen : n + m ≤ l.length) (hok : (((l.drop n).take j).all fun o => opOk P C.fz nobody o.op) = true)
    (h : wpList P l.toArray (Only fun a' u' => u'.drawn = u.drawn ∧ Wn C (b.at a' (.inRegion l.toArray (List.range' (n + j) (m - j)) :: k)) cs u') ((l.drop n).take j) a u) :
    Wn C (b.at a (.inRegion l.toArray (List.range' n m) :: k)) cs u := by
  have hl : ((l.drop n).take j).length = j := by rw [List.length_take, List.length_drop]; omega
  refine span1_aux hb _ n m a u u.drawn (fun a' u' => Wn C (b.at a' (.inRegion l.toArray (List.range' (n + j) (m - j)) :: k)) cs u') rfl (fun i o hi => ?_) (by omega) hok h (fun a' u' hk => by rw [hl]; exact hk)
  rw [List.getElem?_take] at hi
  split at hi
  · rw [List.getElem?_drop] at hi
    simpa using hi
  · cases hi
/-- A whole region. -/
theorem Wn.reg {id : Nat} {l : List Oper} (hb : b.kind ≠ .early) (hok : (l.all fun o => opOk P C.fz nobody o.op) = true)
    (h : wpList P l.toArray (Only fun a' u' => u'.drawn = u.drawn ∧ Wn C (b.at a' k) cs u') l a u) : Wn C (b.at a (.code (.region id l.toArray false) :: k)) cs u := by
  refine Wn.region ?_
  rw [List.range_eq_range']
  refine span1_aux hb l 0 _ a u u.drawn (fun a' u' => Wn C (b.at a' k) cs u') rfl (fun i o hi => by simpa using hi) (by simp) hok h (fun a' u' hk => ?_)
  simp only [Nat.zero_add, List.size_toArray, Nat.sub_self, List.range'_zero]
  exact Wn.region_end hk
/-- A region is entered. -/
theorem Wn.open {id : Nat} {l : List Oper} (h : Wn C (b.at a (.inRegion l.toArray (List.range' 0 l.length) :: k)) cs u) : Wn C (b.at a (.code (.region id l.toArray false) :: k)) cs u := by
  refine Wn.region ?_
  rw [List.range_eq_range', List.size_toArray]
  exact h

theorem runT_callFunc {f : FuncId} (hbd : bodied P f = true) (args : Array Value) (w : World) : (callFunc f args).runT P w #[] = (.ok (.enter f args) w, #[]) := by
  unfold callFunc
  unfold bodied at hbd
  show Sem.runT P (Sem.program fun p => _) w #[] = _
  simp only [Sem.runT]
  show Sem.runT P (Sem.bind (Sem.pure P) fun p => _) w #[] = _
  simp only [Sem.bind]
  cases hfn : P.funcs[f]? with
  | none => rw [hfn] at hbd; cases hbd
  | some fn =>
    rw [hfn] at hbd
    simp only [Bool.and_eq_true, bne_iff_ne] at hbd
    have h1 : (fn.name == "runtime.NumGoroutine") = false := by simpa using hbd.2
    have h2 : fn.body.isNone = false := by cases hh : fn.body <;> simp [hh] at hbd ⊢
    simp only [h1, h2]
    rfl

/-- A call, by name, of a function that is walked in company. -/
theorem Wn.callC {o : Oper} (n m m' : Nat) (hm : m = m' + 1) (hb : b.kind ≠ .early) (ho : ops[n]? = some o) (hw : Region.wanted o (yielded ops a.tmps) = true) {f : FuncId} {as : List Operand} {ats : Array TypeId}
    (hop : o.op = .call { callee := .value (.func f), args := as.toArray, argTypes := ats }) (hbd : bodied P f = true)
    (h : Wn C (Frame.enter P f (as.map a.eval).toArray .normal) (b.at a (.inRegion ops (n :: List.range' (n + 1) m') :: k) :: cs) u) : Wn C (b.at a (.inRegion ops (List.range' n m) :: k)) cs u := by
  subst hm
  rw [List.range'_succ]
  exact Wn.call hb ho hw (fun w => by rw [execOp_call_func hop, List.map_toArray]; exact runT_callFunc hbd _ _) h

/-- A call of a function value. -/
theorem Wn.callV {o : Oper} (n m m' : Nat) (hm : m = m' + 1) (hb : b.kind ≠ .early) (ho : ops[n]? = some o) (hw : Region.wanted o (yielded ops a.tmps) = true) {x : Operand} {f : FuncId} {as : List Operand} {ats : Array TypeId} {caps : Array Value}
    (hop : o.op = .call { callee := .value x, args := as.toArray, argTypes := ats }) (hx : a.eval x = .func (.func f) #[] caps) (hbd : bodied P f = true)
    (h : Wn C (Frame.enter P f ((as.map a.eval).toArray ++ caps) .normal) (b.at a (.inRegion ops (n :: List.range' (n + 1) m') :: k) :: cs) u) : Wn C (b.at a (.inRegion ops (List.range' n m) :: k)) cs u := by
  subst hm
  rw [List.range'_succ]
  refine Wn.call hb ho hw (fun w => ?_) h
  have e : execOp a.eval o = callFunc f ((as.map a.eval).toArray ++ caps) := by
    unfold execOp
    simp [hop, resolve, Deferred.ofValue, invoke, hx]
  rw [e]
  exact runT_callFunc hbd _ _

/-- One operation, told of every tape. -/
theorem Wn.opT {o : Oper} (n m m' : Nat) (hm : m = m' + 1) (hb : b.kind ≠ .early) (ho : ops[n]? = some o) (hok : opOk P C.fz C.S o.op = true)
    (h : ∀ τ d, wpList P ops (Only fun a' u' => Wn C (b.at a' (.inRegion ops (List.range' (n + 1) m') :: k)) cs u') [o] a (u.on τ d)) : Wn C (b.at a (.inRegion ops (List.range' n m) :: k)) cs u := by
  subst hm
  rw [List.range'_succ]
  exact Wn.one ho hok hb h

/-- A call of a plain function, by its contract upon every tape. -/
theorem Wn.callP {o : Oper} (n m m' : Nat) (hm : m = m' + 1) (hb : b.kind ≠ .early) (ho : ops[n]? = some o) (hw : Region.wanted o (yielded ops a.tmps) = true) {f : FuncId} {as : List Operand} {ats : Array TypeId}
    (hop : o.op = .call { callee := .value (.func f), args := as.toArray, argTypes := ats }) (hS : C.S f = true) {K : Value → World → Prop} (hK : ∀ v w τ d, K v w → K v (w.on τ d))
    (h : ∀ τ d, ∃ R : Ending → World → Prop, (∀ e w, R e w → Told P K e w) ∧ Calls P f (as.map a.eval).toArray (u.on τ d) R)
    (hn : ∀ v u', K v u' → Wn C (b.at (a.put o.dst v) (.inRegion ops (List.range' (n + 1) m') :: k)) cs u') : Wn C (b.at a (.inRegion ops (List.range' n m) :: k)) cs u := by
  refine Wn.callC n m m' hm hb ho hw hop (C.list.bodied f hS) (Wn.enter hS hK h fun v u' hv => ?_)
  rw [Frame.finish_at, ho]
  exact hn v u' hv
/-- .. that leaves the world as it is. -/
theorem Wn.callR {o : Oper} (n m m' : Nat) (hm : m = m' + 1) (hb : b.kind ≠ .early) (ho : ops[n]? = some o) (hw : Region.wanted o (yielded ops a.tmps) = true) {f : FuncId} {as : List Operand} {ats : Array TypeId}
    (hop : o.op = .call { callee := .value (.func f), args := as.toArray, argTypes := ats }) (hS : C.S f = true) (v : Value)
    (h : ∀ τ d, Calls P f (as.map a.eval).toArray (u.on τ d) fun e w' => e = .returned v ∧ ∃ σ e', w' = u.on σ e')
    (hn : Wn C (b.at (a.put o.dst v) (.inRegion ops (List.range' (n + 1) m') :: k)) cs u) : Wn C (b.at a (.inRegion ops (List.range' n m) :: k)) cs u :=
  Wn.callP n m m' hm hb ho hw hop hS (K := fun v' w' => v' = v ∧ ∃ σ e', w' = u.on σ e') (fun v' w τ d ⟨h1, σ, e', h2⟩ => ⟨h1, τ, d, by rw [h2]; rfl⟩)
    (fun τ d => ⟨_, fun e w ⟨h1, h2⟩ => by subst h1; exact ⟨rfl, h2⟩, h τ d⟩) fun v' u' ⟨h1, σ, e', h2⟩ => by subst h1; subst h2; exact hn.on σ e'

theorem evH_sync {ad : Addr} {wr : Bool} (hg : ¬ C.Gd.has ad) : EvH C.I ⟨.cell ad, wr, true⟩ := evH_of C.cover (.inl ⟨ad, wr, true, rfl, fun _ => hg⟩)

section atomics
variable {o : Oper} {f : FuncId} {fn : Func} {ats : Array TypeId} {rest : List Nat} {n : Nat}

theorem Wn.aload {x : Operand} (n m m' : Nat) (hm : m = m' + 1) (hb : b.kind ≠ .early) (ho : ops[n]? = some o) (hw : Region.wanted o (yielded ops a.tmps) = true) (hop : o.op = .call { callee := .value (.func f), args := #[x], argTypes := ats })
    (hf : P.funcs[f]? = some fn) (hname : (fn.name == "runtime.NumGoroutine") = false) (hbn : fn.body.isNone = true) (hn : Extern.findNext fn = none) (he : Extern.find fn = some (Extern.Atomic.loadT (.int .i64)))
    {ad : Addr} {v : Int} (hx : a.eval x = .pointer (some ad)) (hc : u.cell? ad = some (.int .i64 v)) (hz : u.frozen? ad = false)
    (h : Wn C (b.at (a.put o.dst (.int .i64 v)) (.inRegion ops (List.range' (n + 1) m') :: k)) cs u) : Wn C (b.at a (.inRegion ops (List.range' n m) :: k)) cs u := by
  subst hm
  rw [List.range'_succ]
  intro w hl hfl
  have hg := (hl.thaw ad hz).2
  refine Win.go rfl fun d => ⟨_, _, _, stepG_load_atomic ho hw hb hop hf hname hbn hn .i64 he hx ((hl.cell ad).trans hc), fun e h' => ?_, floor_at d hfl, h _ (like_w hl w.tape d) (floor_at d hfl)⟩
  simp only [List.mem_toArray, List.mem_singleton] at h'
  subst h'
  exact evH_sync hg

theorem floor_setCell {w : World} {ad : Addr} {v : Value} (hf : Floor C.I w) (hg : ¬ C.Gd.has ad) : Floor C.I (w.setCell ad v) := by
  refine ⟨fun i s hi p hp => ?_, fun i s hi => ?_⟩
  · rw [World.cell?_setCell_other]
    · exact hf.reads i s hi p hp
    · intro e
      subst e
      exact hg (C.cover i s hi p hp)
  · obtain ⟨q, hq⟩ := hf.chans i s hi
    refine ⟨q, ?_⟩
    simp only [World.setCell, Array.getElem?_modify]
    split
    · rw [hq]; rfl
    · exact hq

theorem Wn.astore {x y : Operand} (n m m' : Nat) (hm : m = m' + 1) (hb : b.kind ≠ .early) (ho : ops[n]? = some o) (hw : Region.wanted o (yielded ops a.tmps) = true) (hop : o.op = .call { callee := .value (.func f), args := #[x, y], argTypes := ats })
    (hf : P.funcs[f]? = some fn) (hname : (fn.name == "runtime.NumGoroutine") = false) (hbn : fn.body.isNone = true) (hn : Extern.findNext fn = none) (he : Extern.find fn = some Extern.Atomic.storeT)
    {ad : Addr} {v : Int} {v0 : Value} (hx : a.eval x = .pointer (some ad)) (hy : a.eval y = .int .i64 v) (hc : u.cell? ad = some v0) (hz : u.frozen? ad = false)
    (h : Wn C (b.at (a.put o.dst (.tuple #[])) (.inRegion ops (List.range' (n + 1) m') :: k)) cs (u.setCell ad (.int .i64 v))) : Wn C (b.at a (.inRegion ops (List.range' n m) :: k)) cs u := by
  subst hm
  rw [List.range'_succ]
  intro w hl hfl
  obtain ⟨hz', hg⟩ := hl.thaw ad hz
  have hfl' : ∀ d, Floor C.I ((w.at d).setCell ad (.int .i64 v)) := fun d => floor_setCell (floor_at d hfl) hg
  refine Win.go rfl fun d => ⟨_, _, _, stepG_store_atomic ho hw hb hop hf hname hbn hn he hx hy ((hl.cell ad).trans hc) hz', fun e h' => ?_, hfl' d, h _ ((like_w hl w.tape d).setCell ad _) (hfl' d)⟩
  simp only [List.mem_toArray, List.mem_singleton] at h'
  subst h'
  exact evH_sync hg

theorem Wn.aadd {x y : Operand} (n m m' : Nat) (hm : m = m' + 1) (hb : b.kind ≠ .early) (ho : ops[n]? = some o) (hw : Region.wanted o (yielded ops a.tmps) = true) (hop : o.op = .call { callee := .value (.func f), args := #[x, y], argTypes := ats })
    (hf : P.funcs[f]? = some fn) (hname : (fn.name == "runtime.NumGoroutine") = false) (hbn : fn.body.isNone = true) (hn : Extern.findNext fn = none) (he : Extern.find fn = some (Extern.Atomic.update (Op.intArith .add) .i64 true))
    {ad : Addr} {v d0 : Int} (hx : a.eval x = .pointer (some ad)) (hy : a.eval y = .int .i64 d0) (hc : u.cell? ad = some (.int .i64 v)) (hz : u.frozen? ad = false)
    (h : Wn C (b.at (a.put o.dst (.int .i64 (IntKind.wrap .i64 (v + d0)))) (.inRegion ops (List.range' (n + 1) m') :: k)) cs (u.setCell ad (.int .i64 (IntKind.wrap .i64 (v + d0))))) : Wn C (b.at a (.inRegion ops (List.range' n m) :: k)) cs u := by
  subst hm
  rw [List.range'_succ]
  intro w hl hfl
  obtain ⟨hz', hg⟩ := hl.thaw ad hz
  have hfl' : ∀ d, Floor C.I ((w.at d).setCell ad (.int .i64 (IntKind.wrap .i64 (v + d0)))) := fun d => floor_setCell (floor_at d hfl) hg
  refine Win.go rfl fun d => ⟨_, _, _, stepG_add_atomic ho hw hb hop hf hname hbn hn .i64 he hx hy ((hl.cell ad).trans hc) hz', fun e h' => ?_, hfl' d, h _ ((like_w hl w.tape d).setCell ad _) (hfl' d)⟩
  simp only [List.mem_toArray, List.mem_cons, List.not_mem_nil, or_false] at h'
  rcases h' with rfl | rfl <;> exact evH_sync hg

theorem run_swap_entry {ad : Addr} {v n : Int} {w : World} (hc : w.cell? ad = some (.int .i64 v)) (hz : w.frozen? ad = false) :
    (Extern.Atomic.swapT (.int .i64) #[.pointer (some ad), .int .i64 n]).run P w = .ok (.int .i64 v) (w.setCell ad (.int .i64 n)) := by
  change Sem.run P (do
    let a ← asAddr (.pointer (some ad))
    let old ← Extern.Atomic.read (.int .i64) a
    store a (.int .i64 n) .atomic
    pure old) w = _
  simp [Extern.Atomic.read, asAddr, hc, hz, run_store P w ad (.int .i64 n) .atomic rfl, Result.andThen]
theorem events_swap_entry {ad : Addr} {v n : Int} {w : World} (hc : w.cell? ad = some (.int .i64 v)) (hz : w.frozen? ad = false) (es : Array Event) :
    (Extern.Atomic.swapT (.int .i64) #[.pointer (some ad), .int .i64 n]).events P w es = (es.push ⟨.cell ad, false, true⟩).push ⟨.cell ad, true, true⟩ := by
  change Sem.events P (do
    let a ← asAddr (.pointer (some ad))
    let old ← Extern.Atomic.read (.int .i64) a
    store a (.int .i64 n) .atomic
    pure old) w es = _
  simp [Extern.Atomic.read, asAddr, hc, hz, events_load, events_store P w _ ad (.int .i64 n) .atomic rfl, Result.evThen]

theorem Wn.aswap {x y : Operand} (n m m' : Nat) (hm : m = m' + 1) (hb : b.kind ≠ .early) (ho : ops[n]? = some o) (hw : Region.wanted o (yielded ops a.tmps) = true) (hop : o.op = .call { callee := .value (.func f), args := #[x, y], argTypes := ats })
    (hf : P.funcs[f]? = some fn) (hname : (fn.name == "runtime.NumGoroutine") = false) (hbn : fn.body.isNone = true) (hn : Extern.findNext fn = none) (he : Extern.find fn = some (Extern.Atomic.swapT (.int .i64)))
    {ad : Addr} {v d0 : Int} (hx : a.eval x = .pointer (some ad)) (hy : a.eval y = .int .i64 d0) (hc : u.cell? ad = some (.int .i64 v)) (hz : u.frozen? ad = false)
    (h : Wn C (b.at (a.put o.dst (.int .i64 v)) (.inRegion ops (List.range' (n + 1) m') :: k)) cs (u.setCell ad (.int .i64 d0))) : Wn C (b.at a (.inRegion ops (List.range' n m) :: k)) cs u := by
  subst hm
  rw [List.range'_succ]
  intro w hl hfl
  obtain ⟨hz', hg⟩ := hl.thaw ad hz
  have hfl' : ∀ d, Floor C.I ((w.at d).setCell ad (.int .i64 d0)) := fun d => floor_setCell (floor_at d hfl) hg
  have hmm : (#[x, y] : Array Operand).map a.eval = #[.pointer (some ad), .int .i64 d0] := by simp [hx, hy]
  refine Win.go rfl fun d => ⟨_, _, _, stepG_entry (w := w.at d) ho hw hb hop hf hname hbn hn he (by rw [hmm]; exact run_swap_entry (w := w.at d) ((hl.cell ad).trans hc) hz') (by rw [hmm, events_swap_entry (w := w.at d) ((hl.cell ad).trans hc) hz']; rfl) (sync_rw ad), fun e h' => ?_, hfl' d, h _ ((like_w hl w.tape d).setCell ad _) (hfl' d)⟩
  simp only [List.mem_toArray, List.mem_cons, List.not_mem_nil, or_false] at h'
  rcases h' with rfl | rfl <;> exact evH_sync hg

theorem Wn.acas_hit {x y z : Operand} (n m m' : Nat) (hm : m = m' + 1) (hb : b.kind ≠ .early) (ho : ops[n]? = some o) (hw : Region.wanted o (yielded ops a.tmps) = true) (hop : o.op = .call { callee := .value (.func f), args := #[x, y, z], argTypes := ats })
    (hf : P.funcs[f]? = some fn) (hname : (fn.name == "runtime.NumGoroutine") = false) (hbn : fn.body.isNone = true) (hn : Extern.findNext fn = none) (he : Extern.find fn = some (Extern.Atomic.casT (.int .i64)))
    {ad : Addr} {v d0 : Int} (hx : a.eval x = .pointer (some ad)) (hy : a.eval y = .int .i64 v) (hzz : a.eval z = .int .i64 d0) (hc : u.cell? ad = some (.int .i64 v)) (hz : u.frozen? ad = false)
    (h : Wn C (b.at (a.put o.dst (.bool true)) (.inRegion ops (List.range' (n + 1) m') :: k)) cs (u.setCell ad (.int .i64 d0))) : Wn C (b.at a (.inRegion ops (List.range' n m) :: k)) cs u := by
  subst hm
  rw [List.range'_succ]
  intro w hl hfl
  obtain ⟨hz', hg⟩ := hl.thaw ad hz
  have hfl' : ∀ d, Floor C.I ((w.at d).setCell ad (.int .i64 d0)) := fun d => floor_setCell (floor_at d hfl) hg
  refine Win.go rfl fun d => ⟨_, _, _, stepG_cas_hit (w := w.at d) ho hw hb hop hf hname hbn hn .i64 he hx hy hzz ((hl.cell ad).trans hc) hz', fun e h' => ?_, hfl' d, h _ ((like_w hl w.tape d).setCell ad _) (hfl' d)⟩
  simp only [List.mem_toArray, List.mem_cons, List.not_mem_nil, or_false] at h'
  rcases h' with rfl | rfl <;> exact evH_sync hg

theorem Wn.acas_miss {x y z : Operand} (n m m' : Nat) (hm : m = m' + 1) (hb : b.kind ≠ .early) (ho : ops[n]? = some o) (hw : Region.wanted o (yielded ops a.tmps) = true) (hop : o.op = .call { callee := .value (.func f), args := #[x, y, z], argTypes := ats })
    (hf : P.funcs[f]? = some fn) (hname : (fn.name == "runtime.NumGoroutine") = false) (hbn : fn.body.isNone = true) (hn : Extern.findNext fn = none) (he : Extern.find fn = some (Extern.Atomic.casT (.int .i64)))
    {ad : Addr} {v old d0 : Int} (hx : a.eval x = .pointer (some ad)) (hy : a.eval y = .int .i64 old) (hzz : a.eval z = .int .i64 d0) (hc : u.cell? ad = some (.int .i64 v)) (hz : u.frozen? ad = false) (hne : ¬ v = old)
    (h : Wn C (b.at (a.put o.dst (.bool false)) (.inRegion ops (List.range' (n + 1) m') :: k)) cs u) : Wn C (b.at a (.inRegion ops (List.range' n m) :: k)) cs u := by
  subst hm
  rw [List.range'_succ]
  intro w hl hfl
  obtain ⟨hz', hg⟩ := hl.thaw ad hz
  refine Win.go rfl fun d => ⟨_, _, _, stepG_cas_miss (w := w.at d) ho hw hb hop hf hname hbn hn .i64 he hx hy hzz ((hl.cell ad).trans hc) hz' hne, fun e h' => ?_, floor_at d hfl, h _ (like_w hl w.tape d) (floor_at d hfl)⟩
  simp only [List.mem_toArray, List.mem_singleton] at h'
  subst h'
  exact evH_sync hg
end atomics

/-- A loop whose rounds are counted down. -/
theorem Wn.loop_ind {c : Code} (I : Nat → Act → World → Ctx P → Prop) (step : ∀ f, (∀ a u C, I f a u C → Wn C (b.at a (.inLoop c :: k)) cs u) → ∀ a u C, I (f + 1) a u C → Wn C (b.at a (.code c :: .inLoop c :: k)) cs u)
    (zero : ∀ a u C, I 0 a u C → False) {f : Nat} (h : I f a u C) : Wn C (b.at a (.code (.loop c) :: k)) cs u := by
  have key : ∀ f a u C, I f a u C → Wn C (b.at a (.code c :: .inLoop c :: k)) cs u := by
    intro f
    induction f with
    | zero => exact fun a u C h => (zero a u C h).elim
    | succ f ih => exact fun a u C h => step f (fun a u C h => Wn.inLoop (ih a u C h)) a u C h
  exact Wn.loop (key f a u C h)

/-- A body is entered. -/
theorem Wn.body {f : FuncId} {fn : Func} {c : Code} {args : Array Value} (hf : P.funcs[f]? = some fn) (hb : fn.body = some c)
    (h : Wn C ((base f).at { tmps := args ++ Array.replicate (fn.ntmps - args.size) undef, defers := [] } [.code c]) cs u) : Wn C (Frame.enter P f args .normal) cs u := by
  rw [enter_at args hf hb]; exact h
theorem Wn.range_end {n : Nat} (h : Wn C (b.at a k) cs u) : Wn C (b.at a (.inRegion ops (List.range' n 0) :: k)) cs u := Wn.region_end h
end
end Go.Proofs.Ytoabkcalphpkhaa

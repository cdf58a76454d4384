/- Merged: Bar, Ring, Win, Wins. -/
import Derived.Test.YtoabkcalphpkhaaN06
import Derived.Conc.TokenTrace
import Derived.Conc.CrowdComm
import Derived.Conc.Token
/- If the lone run of plain code comes to its return upon every tape, then it does so, too, where others draw from the tape ahead of each of its steps. No program in sight. -/
namespace Go.Proofs.Ytoabkcalphpkhaa
open Go Go.Conc
set_option linter.unusedVariables false
set_option linter.unusedSimpArgs false
set_option linter.unusedSectionVars false

abbrev Tp := Nat → Question → Nat

def LStep (P : Program) (fr : Frame) (X : List Frame) (u : World) (τ : Tp) (d : Nat) (fr' : Frame) (X' : List Frame) (u' : World) (m : Nat) : Prop :=
  ∀ (τ' : Tp) (d' : Nat) (main : Bool) (cs : List Frame), (∀ j, j < m → τ' (d' + j) = τ (d + j)) → ∃ es', stepG P main (gr fr (X ++ cs)) (u.on τ' d') = .go (gr fr' (X' ++ cs)) (u'.on τ' (d' + m)) es'

/-- The lone run comes to its return upon this tape; R holds there. -/
def Comes1 (P : Program) (R : Frame → World → Prop) (fr : Frame) (X : List Frame) (u : World) (τ : Tp) (d : Nat) : Prop :=
  ∃ n fr' w', runN P n (lone fr (X ++ [poison P]) (u.on τ d)) = .next (lone fr' [poison P] w') ∧ fr'.mode = .returning ∧ R fr' w'

inductive Bars (P : Program) (fz : Bool) (S : FuncId → Bool) (R : Frame → World → Prop) : Frame → List Frame → World → Prop
  | done {fr : Frame} {u : World} (hm : fr.mode = .returning) (h : R fr u) : Bars P fz S R fr [] u
  | more {fr : Frame} {X : List Frame} {u : World} (hok : StOk P fz S fr X) (hnd : ¬ (X = [] ∧ fr.mode = .returning)) (hl : ∀ τ d, ¬ NeverDone P (lone fr (X ++ [poison P]) (u.on τ d)))
      (h : ∀ fr' X' u' τ d m, StOk P fz S fr' X' → LStep P fr X u τ d fr' X' u' m → Bars P fz S R fr' X' u') : Bars P fz S R fr X u

section
variable {P : Program} {fz : Bool} {S : FuncId → Bool} {R : Frame → World → Prop} {fr : Frame} {X : List Frame} {u : World}

theorem LStep.step {τ : Tp} {d : Nat} {fr' : Frame} {X' : List Frame} {u' : World} {m : Nat} (h : LStep P fr X u τ d fr' X' u' m) {τ' : Tp} {d' : Nat} (hj : ∀ j, j < m → τ' (d' + j) = τ (d + j)) :
    step P (lone fr (X ++ [poison P]) (u.on τ' d')) = .next (lone fr' (X' ++ [poison P]) (u'.on τ' (d' + m))) := by
  obtain ⟨es, he⟩ := h τ' d' true [poison P] hj
  refine step_lone_go ?_
  show (stepG P true (gr fr (X ++ [poison P])) (u.on τ' d')).bare = _
  rw [he]
  rfl

theorem done_iff {fr' : Frame} {w w' : World} (h : lone fr (X ++ [poison P]) w = lone fr' [poison P] w') (hm : fr'.mode = .returning) : X = [] ∧ fr.mode = .returning ∧ w = w' ∧ fr = fr' := by
  obtain ⟨rfl, h2, rfl⟩ := lone_inj h
  refine ⟨?_, hm, rfl, rfl⟩
  cases X with
  | nil => rfl
  | cons c X => simp at h2
theorem Comes1.not_never {τ : Tp} {d : Nat} (h : Comes1 P R fr X u τ d) : ¬ NeverDone P (lone fr (X ++ [poison P]) (u.on τ d)) := by
  obtain ⟨n, fr', w', h1, h2, _⟩ := h
  intro hn
  exact hn n fr' w' h1 (by rw [h2])

/-- Behind the return nothing comes back. -/
theorem done_only (hf : FrOk P fz S fr) (hm : fr.mode = .returning) {w : World} {n : Nat} {fr' : Frame} {w' : World} (h : runN P n (lone fr [poison P] w) = .next (lone fr' [poison P] w')) : fr' = fr ∧ w' = w := by
  cases n with
  | zero =>
    simp only [runN, Stepped.next.injEq] at h
    obtain ⟨h1, _, h2⟩ := lone_inj h
    exact ⟨h1.symm, h2.symm⟩
  | succ n =>
    exfalso
    have hstuck : ∀ (v : Value) (w : World), ∃ o w', step P (lone ((poison P).finish v) [] w) = .ended o w' := by
      intro v w
      refine ⟨.unsupported (Unsupported.elab "") (Frame.pos P (poison P)), w, step_lone_ended ?_⟩
      simp [stepG, stepG.exec, poison, Frame.finish, GStep.bare]
    have hk := hf.kind
    have hd := hf.defers
    have hgo : (∃ v w₁, step P (lone fr [poison P] w) = .next (lone ((poison P).finish v) [] w₁)) ∨ ∃ o w₁, step P (lone fr [poison P] w) = .ended o w₁ := by
      cases hfn : P.funcs[fr.fn]? with
      | none =>
        refine .inl ⟨fr.tmps.getD 0 undef, w, step_lone_go ?_⟩
        simp [stepG, hm, unwind, hd, hfn, doReturn, hk, GStep.bare]
      | some fn =>
        generalize hq : (results fn fr.tmps).runT P w #[] = q
        obtain ⟨q1, q2⟩ := q
        cases q1 with
        | ok v w₁ =>
          refine .inl ⟨v, w₁, step_lone_go ?_⟩
          simp only [stepG, hm, unwind, hd, hfn, hq]
          simp [GStep.after, doReturn, hk, GStep.bare]
        | halt hh w₁ =>
          cases hh with
          | stuck s =>
            refine .inr ⟨.stuck s (fr.pos P), w₁, step_lone_ended ?_⟩
            simp only [stepG, hm, unwind, hd, hfn, hq]
            simp [GStep.after, GStep.bare]
          | _ =>
            refine .inr ⟨.stuck "return: the result variables cannot be read" (fr.pos P), w₁, step_lone_ended ?_⟩
            simp only [stepG, hm, unwind, hd, hfn, hq]
            simp [GStep.after, GStep.bare]
    rcases hgo with ⟨v, w₁, hgo⟩ | ⟨o, w₁, hgo⟩
    · simp only [runN, hgo] at h
      cases n with
      | zero =>
        simp only [runN, Stepped.next.injEq] at h
        obtain ⟨_, h2, _⟩ := lone_inj h
        cases h2
      | succ n =>
        obtain ⟨o, w₂, hs⟩ := hstuck v w₁
        simp only [runN, hs] at h
        cases h
    · simp only [runN, hgo] at h
      cases h

/-- Upon a tape that goes on alike the lone run is the same. -/
theorem shift (hS : ListOk P fz S) (hR : ∀ fr w τ d, R fr w → R fr (w.on τ d)) : ∀ (n : Nat) {fr : Frame} {X : List Frame} {u : World} {τ τ' : Tp} {d d' : Nat}, StOk P fz S fr X → (∀ j, τ' (d' + j) = τ (d + j)) →
    (∃ fr' w', runN P n (lone fr (X ++ [poison P]) (u.on τ d)) = .next (lone fr' [poison P] w') ∧ fr'.mode = .returning ∧ R fr' w') → Comes1 P R fr X u τ' d' := by
  intro n
  induction n with
  | zero =>
    intro fr X u τ τ' d d' hok hj ⟨fr', w', h1, h2, h3⟩
    simp only [runN, Stepped.next.injEq] at h1
    obtain ⟨rfl, _, rfl, rfl⟩ := done_iff h1 h2
    exact ⟨0, fr, u.on τ' d', rfl, h2, by have := hR _ _ τ' d' h3; exact this⟩
  | succ n ih =>
    intro fr X u τ τ' d d' hok hj ⟨fr', w', h1, h2, h3⟩
    by_cases hnd : X = [] ∧ fr.mode = .returning
    · obtain ⟨rfl, hm⟩ := hnd
      obtain ⟨rfl, rfl⟩ := done_only (P := P) (fz := fz) (S := S) hok.top hm h1
      exact ⟨0, fr', u.on τ' d', rfl, h2, by have := hR _ _ τ' d' h3; exact this⟩
    · rcases step_plain (Gd := fun _ => none) hS (fun _ _ => rfl) hok hnd (Like.refl u) (τ := τ) (d := d) with hst | hnv
      · obtain ⟨fr₁, X₁, m, u₁, _, _, hok₁, _, _, _, _, hl⟩ := hst
        have hL : LStep P fr X u τ d fr₁ X₁ u₁ m := hl
        have e1 := hL.step (τ' := τ) (d' := d) (fun _ _ => rfl)
        have e2 := hL.step (τ' := τ') (d' := d') (fun j _ => hj j)
        simp only [runN, e1] at h1
        obtain ⟨k, fr'', w'', g1, g2, g3⟩ := ih (τ' := τ') (d' := d' + m) hok₁ (fun j => by rw [Nat.add_assoc, Nat.add_assoc]; exact hj _) ⟨fr', w', h1, h2, h3⟩
        exact ⟨k + 1, fr'', w'', by simp only [runN, e2]; exact g1, g2, g3⟩
      · exact absurd (hnv (n + 1) fr' w' h1) (by rw [h2]; simp)

/-- A state from which the run could go wrong. -/
structure Bad (P : Program) (fz : Bool) (S : FuncId → Bool) (R : Frame → World → Prop) (s : Frame × List Frame × World) : Prop where
  ok : StOk P fz S s.1 s.2.1
  comes : ∀ τ d, Comes1 P R s.1 s.2.1 s.2.2 τ d
  bad : ¬ Bars P fz S R s.1 s.2.1 s.2.2

theorem Bad.not_done (hR : ∀ fr w τ d, R fr w → R fr (w.on τ d)) {s : Frame × List Frame × World} (h : Bad P fz S R s) : ¬ (s.2.1 = [] ∧ s.1.mode = .returning) := by
  obtain ⟨fr, X, u⟩ := s
  rintro ⟨hX, hm⟩
  simp only at hX hm
  subst hX
  obtain ⟨n, fr', w', h1, h2, h3⟩ := h.comes u.tape u.drawn
  obtain ⟨rfl, rfl⟩ := done_only (P := P) (fz := fz) (S := S) h.ok.top hm h1
  exact h.bad (.done hm h3)
theorem Bad.next (hS : ListOk P fz S) (hR : ∀ fr w τ d, R fr w → R fr (w.on τ d)) {s : Frame × List Frame × World} (h : Bad P fz S R s) :
    ∃ (s' : Frame × List Frame × World) (τ : Tp) (d m : Nat), LStep P s.1 s.2.1 s.2.2 τ d s'.1 s'.2.1 s'.2.2 m ∧ Bad P fz S R s' := by
  have hnd := h.not_done hR
  obtain ⟨fr, X, u⟩ := s
  simp only at hnd
  have hex : ∃ fr' X' u' τ d m, StOk P fz S fr' X' ∧ LStep P fr X u τ d fr' X' u' m ∧ ¬ Bars P fz S R fr' X' u' := by
    refine Classical.byContradiction fun hno => h.bad (.more h.ok hnd (fun τ d => (h.comes τ d).not_never) fun fr' X' u' τ d m hok hl => ?_)
    exact Classical.byContradiction fun hb => hno ⟨fr', X', u', τ, d, m, hok, hl, hb⟩
  obtain ⟨fr', X', u', τ, d, m, hok, hl, hb⟩ := hex
  refine ⟨(fr', X', u'), τ, d, m, hl, hok, fun τ₁ d₁ => ?_, hb⟩
  have hcat := h.comes (fun i => if i < m then τ (d + i) else τ₁ (d₁ + (i - m))) 0
  obtain ⟨n, fr'', w'', h1, h2, h3⟩ := hcat
  cases n with
  | zero =>
    simp only [runN, Stepped.next.injEq] at h1
    obtain ⟨h4, h5, _⟩ := done_iff h1 h2
    exact absurd ⟨h4, h5⟩ hnd
  | succ n =>
    have e := hl.step (τ' := fun i => if i < m then τ (d + i) else τ₁ (d₁ + (i - m))) (d' := 0) (fun j hj => by simp [hj])
    simp only [runN, e] at h1
    refine shift hS hR n hok (fun j => ?_) ⟨fr'', w'', h1, h2, h3⟩
    have : ¬ (0 + m + j < m) := by omega
    simp only [this, if_false]
    congr 1
    omega

theorem least {p : Nat → Prop} (h : ∃ k, p k) : ∃ k, p k ∧ ∀ j, j < k → ¬ p j := by
  obtain ⟨k, hk⟩ := h
  induction k using Nat.strongRecOn with
  | _ k ih =>
    by_cases hx : ∃ j, j < k ∧ p j
    · obtain ⟨j, hj, hp⟩ := hx
      exact ih j hj hp
    · exact ⟨k, hk, fun j hj hp => hx ⟨j, hj, hp⟩⟩

/-- ████ THE BAR. ████ -/
theorem bars (hS : ListOk P fz S) (hR : ∀ fr w τ d, R fr w → R fr (w.on τ d)) (hok : StOk P fz S fr X) (h : ∀ τ d, Comes1 P R fr X u τ d) : Bars P fz S R fr X u := by
  refine Classical.byContradiction fun hb => ?_
  have h0 : Bad P fz S R (fr, X, u) := ⟨hok, h, hb⟩
  -- an endless run
  let nx : {s // Bad P fz S R s} → {s // Bad P fz S R s} := fun s => ⟨Classical.choose (s.2.next hS hR), (Classical.choose_spec (Classical.choose_spec (Classical.choose_spec (Classical.choose_spec (s.2.next hS hR))))).2⟩
  let sq : Nat → {s // Bad P fz S R s} := fun n => Nat.rec ⟨_, h0⟩ (fun _ s => nx s) n
  have hsq : ∀ k, ∃ (τ : Tp) (d m : Nat), LStep P (sq k).1.1 (sq k).1.2.1 (sq k).1.2.2 τ d (sq (k + 1)).1.1 (sq (k + 1)).1.2.1 (sq (k + 1)).1.2.2 m := by
    intro k
    have := Classical.choose_spec ((sq k).2.next hS hR)
    obtain ⟨τ, d, m, hl, _⟩ := this
    exact ⟨τ, d, m, hl⟩
  let T : Nat → Tp := fun k => Classical.choose (hsq k)
  let dd : Nat → Nat := fun k => Classical.choose (Classical.choose_spec (hsq k))
  let mm : Nat → Nat := fun k => Classical.choose (Classical.choose_spec (Classical.choose_spec (hsq k)))
  have hl : ∀ k, LStep P (sq k).1.1 (sq k).1.2.1 (sq k).1.2.2 (T k) (dd k) (sq (k + 1)).1.1 (sq (k + 1)).1.2.1 (sq (k + 1)).1.2.2 (mm k) := fun k => Classical.choose_spec (Classical.choose_spec (Classical.choose_spec (hsq k)))
  let D : Nat → Nat := fun k => Nat.rec 0 (fun k s => s + mm k) k
  have hD : ∀ k, D (k + 1) = D k + mm k := fun k => rfl
  have hmono : ∀ k l, k ≤ l → D k ≤ D l := by
    intro k l hkl
    induction hkl with
    | refl => exact Nat.le_refl _
    | step _ ih => exact Nat.le_trans ih (by rw [hD]; omega)
  -- the tape that answers as the endless run was answered
  have hstar : ∃ star : Tp, ∀ k j, j < mm k → star (D k + j) = T k (dd k + j) := by
    refine ⟨fun n => (open Classical in if hx : ∃ k, n < D (k + 1) then T (Classical.choose (least hx)) (dd (Classical.choose (least hx)) + (n - D (Classical.choose (least hx)))) else fun _ => 0), fun k j hj => ?_⟩
    have hx : ∃ k', D k + j < D (k' + 1) := ⟨k, by rw [hD]; omega⟩
    have hsp := Classical.choose_spec (least hx)
    have hk : Classical.choose (least hx) = k := by
      apply Nat.le_antisymm
      · refine Nat.le_of_not_lt fun hlt => ?_
        exact hsp.2 k hlt (by rw [hD]; omega)
      · refine Nat.le_of_not_lt fun hlt => ?_
        have h2 := hmono (Classical.choose (least hx) + 1) k hlt
        have h1 := hsp.1
        omega
    simp only
    rw [dif_pos hx, hk]
    congr 1
    omega
  obtain ⟨star, hstar⟩ := hstar
  have hrun : ∀ k, runN P k (lone fr (X ++ [poison P]) (u.on star 0)) = .next (lone (sq k).1.1 ((sq k).1.2.1 ++ [poison P]) ((sq k).1.2.2.on star (D k))) := by
    intro k
    induction k with
    | zero => rfl
    | succ k ih =>
      rw [runN_add, ih]
      simp only [runN]
      rw [(hl k).step (fun j hj => hstar k j hj)]
  obtain ⟨n, fr', w', h1, h2, _⟩ := h star 0
  rw [hrun n] at h1
  simp only [Stepped.next.injEq] at h1
  obtain ⟨h3, h4, _⟩ := done_iff h1 h2
  exact (sq n).2.not_done hR ⟨h3, h4⟩
end
end Go.Proofs.Ytoabkcalphpkhaa

/- What is held of the trace while one goroutine holds the baton and others sit, each with cells of its own that nobody writes. No machine, no program in sight. -/
namespace Go.Proofs.Ytoabkcalphpkhaa
open Go Go.Conc
set_option linter.unusedVariables false
set_option linter.unusedSimpArgs false

/-- Which places whom: goroutine g may read these places while it does not hold the baton; nobody writes them meanwhile. None: it has no seat. -/
abbrev Stills := Nat → Option (Loc → Prop)

structure PastR (St : Stills) (h : Nat) (t : Trace) : Prop where
  clean : ∀ said, ¬ Race said t
  known : ∀ i a, touchAt t i = some a → a.loc.isMemory = true → Knows t h i ∨ (a.write = false ∧ ∃ g S, t.g? i = some g ∧ St g = some S ∧ S a.loc)
  wrote : ∀ i a, touchAt t i = some a → a.write = true → ∀ g S, St g = some S → S a.loc → Knows t g i
  hears : ∀ g, (g = h ∨ (St g).isSome = true) → Deaf t g = 0

section
variable {St : Stills} {h g : Nat} {t u : Trace}

theorem PastR.old_known (H : PastR St h t) {i : Nat} {a : Touch} {x : MemOp} (hx : t[i]? = some x) (hxa : x.act.touch? = some a) (hm : a.loc.isMemory = true) :
    Knows (t ++ u) h i ∨ (a.write = false ∧ ∃ g S, (t ++ u).g? i = some g ∧ St g = some S ∧ S a.loc) :=
  (H.known i a (by rw [touchAt_of hx]; exact hxa) hm).imp (·.app u) fun ⟨p, g, S, hg, hs⟩ => ⟨p, g, S, by rw [g?_old (lt_size_of_getElem? hx)]; exact hg, hs⟩
theorem PastR.old_hears (H : PastR St h t) (hu : ∀ op ∈ u, op.g = g) (hd : (g = h ∨ (St g).isSome = true) → Deaf (t ++ u) g = Deaf t g) : ∀ g', (g' = h ∨ (St g').isSome = true) → Deaf (t ++ u) g' = 0 := fun g' hg' => by
  by_cases e : g' = g
  · subst e; exact (hd hg').trans (H.hears g' hg')
  · exact (Deaf_other t (fun x => e x.symm) u hu).trans (H.hears g' hg')

/-- Operations of one goroutine that touch nothing. -/
theorem PastR.appMute (H : PastR St h t) (hu : ∀ op ∈ u, op.g = g) (hn : ∀ op ∈ u, op.act.touch? = none) (hd : (g = h ∨ (St g).isSome = true) → Deaf (t ++ u) g = Deaf t g) : PastR St h (t ++ u) := by
  refine ⟨fun said => noRace_appendMute (H.clean said) hn, fun i a ha hm => ?_, fun i a ha hw g' S hg' hS => ?_, H.old_hears hu hd⟩
  · obtain ⟨x, hx, hxa⟩ := touch_of ha
    rcases getElem?_append_cases hx with ⟨_, hx'⟩ | ⟨_, hxu⟩
    · exact H.old_known hx' hxa hm
    · rw [hn x hxu] at hxa; cases hxa
  · obtain ⟨x, hx, hxa⟩ := touch_of ha
    rcases getElem?_append_cases hx with ⟨_, hx'⟩ | ⟨_, hxu⟩
    · exact (H.wrote i a (by rw [touchAt_of hx']; exact hxa) hw g' S hg' hS).app u
    · rw [hn x hxu] at hxa; cases hxa

/-- Somebody who has a seat reads places of its own. -/
theorem PastR.appRead {S : Loc → Prop} (H : PastR St h t) (hg : St g = some S) (hu : ∀ op ∈ u, op.g = g) (hr : ∀ op ∈ u, ∀ b, op.act.touch? = some b → b.write = false ∧ S b.loc) (hd : Deaf (t ++ u) g = Deaf t g) : PastR St h (t ++ u) := by
  refine ⟨fun said => noRace_append (H.clean said) hu fun i a ha op hop b hb hc => ?_, fun i a ha hm => ?_, fun i a ha hw g' S' hg' hS' => ?_, H.old_hears hu (fun _ => hd)⟩
  · obtain ⟨hb0, hbS⟩ := hr op hop b hb
    rcases hc.2.2.1 with x | x
    · exact H.wrote i a ha x g S hg (hc.1 ▸ hbS)
    · rw [hb0] at x; cases x
  · obtain ⟨x, hx, hxa⟩ := touch_of ha
    rcases getElem?_append_cases hx with ⟨_, hx'⟩ | ⟨_, hxu⟩
    · exact H.old_known hx' hxa hm
    · exact .inr ⟨(hr x hxu a hxa).1, g, S, by rw [g?_of hx, hu x hxu], hg, (hr x hxu a hxa).2⟩
  · obtain ⟨x, hx, hxa⟩ := touch_of ha
    rcases getElem?_append_cases hx with ⟨_, hx'⟩ | ⟨_, hxu⟩
    · exact (H.wrote i a (by rw [touchAt_of hx']; exact hxa) hw g' S' hg' hS').app u
    · rw [(hr x hxu a hxa).1] at hw; cases hw

/-- The holder's own operations: whatever, but no write of anybody's own places. -/
theorem PastR.appH (H : PastR St h t) (hu : ∀ op ∈ u, op.g = h) (hs : ∀ op ∈ u, ∀ b, op.act.touch? = some b → b.write = true → ∀ g S, St g = some S → ¬ S b.loc) (hd : Deaf (t ++ u) h = Deaf t h) : PastR St h (t ++ u) := by
  refine ⟨fun said => noRace_append (H.clean said) hu fun i a ha op hop b hb hc => ?_, fun i a ha hm => ?_, fun i a ha hw g S hg hS => ?_, H.old_hears hu (fun _ => hd)⟩
  · rcases H.known i a ha hc.2.1 with hk | ⟨hw, g, S, hg, hS, hl⟩
    · exact hk
    · rcases hc.2.2.1 with x | x
      · rw [hw] at x; cases x
      · exact absurd (hc.1 ▸ hl) (hs op hop b hb x g S hS)
  · obtain ⟨x, hx, hxa⟩ := touch_of ha
    rcases getElem?_append_cases hx with ⟨_, hx'⟩ | ⟨_, hxu⟩
    · exact H.old_known hx' hxa hm
    · have := knows_own hx
      rw [hu x hxu] at this
      exact .inl this
  · obtain ⟨x, hx, hxa⟩ := touch_of ha
    rcases getElem?_append_cases hx with ⟨_, hx'⟩ | ⟨_, hxu⟩
    · exact (H.wrote i a (by rw [touchAt_of hx']; exact hxa) hw g S hg hS).app u
    · exact absurd hS (hs x hxu a hxa hw g S hg)

/-- The new order of seats: j, who takes the baton, has none; who gave it may have one; the others keep theirs. -/
def passed (St : Stills) (h j : Nat) (S : Option (Loc → Prop)) : Stills := fun g => if g = j then none else if g = h then S else St g

/-- A send that is met: the taker holds the baton, and knows all that the giver knew. -/
theorem PastR.give {j : Nat} {S : Option (Loc → Prop)} (H : PastR St h t) (hj : (St j).isSome = true) (hhj : h ≠ j) (hmem : ∀ S', S = some S' → ∀ l, S' l → l.isMemory = true) (fh : FuncId) (ph : String) (fj : FuncId) (pj : String) {c : Nat} (k cap : Nat) :
    PastR (passed St h j S) j (t ++ met h j fh ph fj pj c k cap) := by
  have hn := met_mute h j fh ph fj pj c k cap
  have hq := fun g => met_quiet h j fh ph fj pj c k cap g
  have e0 : (t ++ met h j fh ph fj pj c k cap)[t.size]? = some { g := h, fn := fh, pos := ph, act := .send c k } := by simp [met]
  have e3 : (t ++ met h j fh ph fj pj c k cap)[t.size + 3]? = some { g := j, fn := fj, pos := pj, act := .recvDone c k } := by simp [met]
  have edge : HappensBefore (t ++ met h j fh ph fj pj c k cap) t.size (t.size + 3) :=
    Relation.TransGen.single (.inr ⟨.handOver (act?_of e0) (act?_of e3), ⟨h, g?_of e0, by rw [deaf_old (Nat.le_refl _)]; exact H.hears h (.inl rfl)⟩, ⟨j, g?_of e3, by rw [deaf_quiet (hq j) 3 (by simp [met])]; exact H.hears j (.inr hj)⟩⟩)
  refine ⟨fun said => noRace_appendMute (H.clean said) hn, fun i a ha hm => ?_, fun i a ha hw g S' hg hS => ?_, fun g hg => (Deaf_quiet (hq g)).trans (H.hears g ?_)⟩
  · obtain ⟨x, hx, hxa⟩ := touch_of ha
    rcases getElem?_append_cases hx with ⟨hi, hx'⟩ | ⟨_, hxu⟩
    · have own : x.g = j → Knows (t ++ met h j fh ph fj pj c k cap) j i := fun e => by have := knows_own hx; rwa [e] at this
      have old : Knows t h i → Knows (t ++ met h j fh ph fj pj c k cap) j i := fun hk => ⟨t.size + 3, _, e3, rfl, .inr ((hk.hb_new (Nat.le_refl _) e0 rfl).trans edge)⟩
      rcases H.known i a (by rw [touchAt_of hx']; exact hxa) hm with hk | ⟨p, g, S', hg, hS', hl⟩
      · exact .inl (old hk)
      · have hxg : x.g = g := by have := g?_of hx'; rw [hg] at this; exact (Option.some.inj this).symm
        by_cases e : g = j
        · exact .inl (own (hxg.trans e))
        · by_cases e' : g = h
          · subst e'
            have := knows_own hx'
            rw [hxg] at this
            exact .inl (old this)
          · exact .inr ⟨p, g, S', by rw [g?_old hi]; exact hg, by rw [passed, if_neg e, if_neg e']; exact hS', hl⟩
    · rw [hn x hxu] at hxa; cases hxa
  · obtain ⟨x, hx, hxa⟩ := touch_of ha
    rcases getElem?_append_cases hx with ⟨_, hx'⟩ | ⟨_, hxu⟩
    · unfold passed at hg
      split at hg
      · cases hg
      · split at hg
        · rename_i e
          subst e
          rcases H.known i a (by rw [touchAt_of hx']; exact hxa) (hmem S' hg _ hS) with hk | ⟨p, _⟩
          · exact hk.app _
          · rw [p] at hw; cases hw
        · exact (H.wrote i a (by rw [touchAt_of hx']; exact hxa) hw g S' hg hS).app _
    · rw [hn x hxu] at hxa; cases hxa
  · unfold passed at hg
    by_cases e : g = j
    · exact .inr (e ▸ hj)
    · by_cases e' : g = h
      · exact .inl e'
      · rcases hg with hg | hg
        · exact absurd hg e
        · rw [if_neg e, if_neg e'] at hg
          exact .inr hg

/-- A go statement of the holder's: the child holds the baton; its maker has a seat. -/
theorem PastR.hire {c : Nat} {S : Loc → Prop} (H : PastR St h t) (hc : St c = none) (hhc : h ≠ c) (hmem : ∀ l, S l → l.isMemory = true) (hc0 : Deaf t c = 0) (fh : FuncId) (ph : String) (fc : FuncId) (pc : String) :
    PastR (passed St h c (some S)) c (t ++ #[{ g := h, fn := fh, pos := ph, act := .go c }, { g := c, fn := fc, pos := pc, act := .start }]) := by
  generalize hu : (#[{ g := h, fn := fh, pos := ph, act := .go c }, { g := c, fn := fc, pos := pc, act := .start }] : Trace) = u
  have hn : ∀ op ∈ u, op.act.touch? = none := by
    intro op hop
    subst hu
    simp only [List.mem_toArray, List.mem_cons, List.not_mem_nil, or_false] at hop
    rcases hop with rfl | rfl <;> rfl
  have hq : ∀ g, ∀ op ∈ u, ∀ d, deafStep g d op = d := by
    intro g op hop d
    subst hu
    simp only [List.mem_toArray, List.mem_cons, List.not_mem_nil, or_false] at hop
    rcases hop with rfl | rfl <;> rfl
  have e0 : (t ++ u)[t.size]? = some { g := h, fn := fh, pos := ph, act := .go c } := by subst hu; simp
  have e1 : (t ++ u)[t.size + 1]? = some { g := c, fn := fc, pos := pc, act := .start } := by subst hu; simp
  have edge : HappensBefore (t ++ u) t.size (t.size + 1) :=
    Relation.TransGen.single (.inr ⟨.spawn (act?_of e0) (act?_of e1) (g?_of e1), ⟨h, g?_of e0, by rw [deaf_old (Nat.le_refl _)]; exact H.hears h (.inl rfl)⟩, ⟨c, g?_of e1, by rw [deaf_quiet (hq c) 1 (by subst hu; simp)]; exact hc0⟩⟩)
  refine ⟨fun said => noRace_appendMute (H.clean said) hn, fun i a ha hm => ?_, fun i a ha hw g S' hg hS => ?_, fun g hg => (Deaf_quiet (hq g)).trans ?_⟩
  · obtain ⟨x, hx, hxa⟩ := touch_of ha
    rcases getElem?_append_cases hx with ⟨hi, hx'⟩ | ⟨_, hxu⟩
    · have old : Knows t h i → Knows (t ++ u) c i := fun hk => ⟨t.size + 1, _, e1, rfl, .inr ((hk.hb_new (Nat.le_refl _) e0 rfl).trans edge)⟩
      rcases H.known i a (by rw [touchAt_of hx']; exact hxa) hm with hk | ⟨p, g, S', hg, hS', hl⟩
      · exact .inl (old hk)
      · have hxg : x.g = g := by have := g?_of hx'; rw [hg] at this; exact (Option.some.inj this).symm
        have e : g ≠ c := fun e => by rw [e, hc] at hS'; cases hS'
        by_cases e' : g = h
        · subst e'
          have := knows_own hx'
          rw [hxg] at this
          exact .inl (old this)
        · exact .inr ⟨p, g, S', by rw [g?_old hi]; exact hg, by rw [passed, if_neg e, if_neg e']; exact hS', hl⟩
    · rw [hn x hxu] at hxa; cases hxa
  · obtain ⟨x, hx, hxa⟩ := touch_of ha
    rcases getElem?_append_cases hx with ⟨_, hx'⟩ | ⟨_, hxu⟩
    · unfold passed at hg
      split at hg
      · cases hg
      · split at hg
        · rename_i e
          subst e
          rcases H.known i a (by rw [touchAt_of hx']; exact hxa) (by cases hg; exact hmem _ hS) with hk | ⟨p, _⟩
          · exact hk.app _
          · rw [p] at hw; cases hw
        · exact (H.wrote i a (by rw [touchAt_of hx']; exact hxa) hw g S' hg hS).app _
    · rw [hn x hxu] at hxa; cases hxa
  · unfold passed at hg
    by_cases e : g = c
    · rw [e]; exact hc0
    · by_cases e' : g = h
      · exact H.hears g (.inl e')
      · rcases hg with hg | hg
        · exact absurd hg e
        · rw [if_neg e, if_neg e'] at hg
          exact H.hears g (.inr hg)

/-- At the start nothing has been done. -/
theorem pastR_nil : PastR (fun _ => none) 0 #[] :=
  ⟨fun said => by rintro ⟨i, j, _, ⟨a, b, ha, _⟩, _⟩; simp [Trace.act?] at ha, fun i a ha => by simp [touchAt, Trace.act?] at ha, fun i a ha => by simp [touchAt, Trace.act?] at ha, fun g _ => rfl⟩
/-- Goroutine 0 holds the baton, nobody sits: all is handed over to it. -/
theorem PastR.over (H : PastR (fun _ => none) 0 t) : t.HandedOver := by
  intro i g hg hne ⟨x, hx, hm, _⟩
  rcases H.known i x hx hm with ⟨q, z, hq, hz, hb⟩ | ⟨_, g, S, _, hS, _⟩
  · rcases hb with rfl | hb
    · rw [g?_of hq, hz] at hg
      exact absurd (Option.some.inj hg).symm hne
    · exact ⟨q, by rw [g?_of hq, hz], hb⟩
  · cases hS
theorem PastR.congr {St' : Stills} (H : PastR St h t) (e : ∀ g, St' g = St g) : PastR St' h t := by
  have : St' = St := funext e
  rw [this]; exact H
end
end Go.Proofs.Ytoabkcalphpkhaa

/- One goroutine holds the baton; each other one sits at a receive of its own, is on its way there, or only leaves. If the holder's steps lead to the end, whoever is picked when, the run ends well upon every tape. No program in sight. -/
namespace Go.Proofs.Ytoabkcalphpkhaa
open Go Go.Conc
open Go.ConcN (sumTo upd sumTo_upd upd_ne upd_same le_sumTo)
set_option linter.unusedVariables false
set_option linter.unusedSimpArgs false
set_option linter.unusedSectionVars false

/-- A seat: the channel at whose receive its goroutine waits; the record that goes on then; the cells that it reads on its way there. -/
structure Seat where
  c : Nat
  z : Value
  r : Goroutine
  cells : List (Addr × Value)
def Seat.St (s : Seat) (l : Loc) : Prop := ∃ p ∈ s.cells, l = .cell p.1
def Seat.reads (s : Seat) (w : World) : Prop := ∀ p ∈ s.cells, w.cell? p.1 = some p.2
def open0 (w : World) (c : Nat) : Prop := ∃ k, w.heap[c]? = some (.chan 0 #[] false k k false)
abbrev Seats := Nat → Option Seat
def stills (I : Seats) : Stills := fun g => (I g).map Seat.St

/-- On its way to its seat: within so many steps, whatever the others do meanwhile. -/
inductive Way (P : Program) (main : Bool) (s : Seat) : Nat → Goroutine → Prop
  | here {g : Goroutine} (hs : g.status = .running) (es : World → Array Event) (hes : ∀ w, s.reads w → ∀ e ∈ es w, ∃ a, e = ⟨.cell a, false, false⟩ ∧ s.St (.cell a))
      (h : ∀ w, s.reads w → stepG P main g w = .comm s.r #[rcase s.c s.z] true (.recv false) w (es w)) : Way P main s 0 g
  | step {n : Nat} {g g' : Goroutine} (hs : g.status = .running) (es : World → Array Event) (hes : ∀ w, s.reads w → ∀ e ∈ es w, ∃ a, e = ⟨.cell a, false, false⟩ ∧ s.St (.cell a))
      (h : ∀ w, s.reads w → stepG P main g w = .go g' w (es w)) (hw : Way P main s n g') : Way P main s (n + 1) g
theorem Way.running {P : Program} {main : Bool} {s : Seat} {n : Nat} {g : Goroutine} (h : Way P main s n g) : g.status = .running := by cases h <;> assumption

def Sit (P : Program) (main : Bool) (s : Seat) (n : Nat) (g : Goroutine) : Prop := (n = 0 ∧ g = parked s.r #[rcase s.c s.z] (.recv false)) ∨ ∃ k, n = k + 1 ∧ Way P main s k g
def Idle (P : Program) (T : Trace) (i n : Nat) (g : Goroutine) : Option Seat → Prop
  | none => 0 < i ∧ QuitsD P n (Deaf T i) g
  | some s => Sit P (i == 0) s n g

structure Floor (I : Seats) (w : World) : Prop where
  reads : ∀ i s, I i = some s → s.reads w
  chans : ∀ i s, I i = some s → open0 w s.c

/-- What the holder may list. -/
def EvH (I : Seats) (e : Event) : Prop := (∀ x, (MemAct.ofEvent e).touch? = some x → x.write = true → ∀ i s, I i = some s → ¬ s.St x.loc) ∧ e.loc ≠ .mark .disable ∧ e.loc ≠ .mark .enable

structure Core (P : Program) (I : Seats) (N h : Nat) (T : Trace) (gs : Array Goroutine) (w : World) (q : Nat → Nat) : Prop where
  size : gs.size = N
  idle : ∀ i g, i ≠ h → gs[i]? = some g → Idle P T i (q i) g (I i)
  floor : Floor I w
  inj : ∀ i j s s', I i = some s → I j = some s' → s.c = s'.c → i = j
  bare : I h = none
  lt : h < N
  past : PastR (stills I) h T
  above : ∀ j, N ≤ j → Deaf T j = 0 ∧ I j = none

/-! ### small things -/
theorem reads_at {s : Seat} {w : World} (d : Nat) (h : s.reads w) : s.reads (w.at d) := h
theorem floor_at {I : Seats} {w : World} (d : Nat) (h : Floor I w) : Floor I (w.at d) := ⟨h.reads, h.chans⟩
theorem cell_setChan {w : World} {c cap : Nat} {buf : Array Value} {cl : Bool} {s r : Nat} {tm : Bool} {a : Addr} {v : Value} (hc : open0 w c) (h : w.cell? a = some v) : (w.setChan c cap buf cl s r tm).cell? a = some v := by
  have hne : a.block ≠ c := by
    rintro rfl
    obtain ⟨k, hk⟩ := hc
    rw [World.cell?, hk] at h
    cases h
  rw [← h]
  unfold World.cell?
  rw [heap_setChan_ne w _ _ _ _ _ _ (Ne.symm hne)]
theorem floor_setChan {I : Seats} {w : World} {c k : Nat} (hc : open0 w c) (h : Floor I w) : Floor I (w.setChan c 0 #[] false k k false) := by
  refine ⟨fun i s hi p hp => cell_setChan hc (h.reads i s hi p hp), fun i s hi => ?_⟩
  by_cases e : c = s.c
  · obtain ⟨k', hk⟩ := hc
    exact ⟨k, by rw [← e]; exact heap_setChan_self w hk _ _ _ _ _ _⟩
  · obtain ⟨k', hk'⟩ := h.chans i s hi
    exact ⟨k', by rw [heap_setChan_ne w _ _ _ _ _ _ e]; exact hk'⟩

section
variable {P : Program} {I : Seats} {N h : Nat} {T : Trace} {gs : Array Goroutine} {w : World} {q : Nat → Nat}

theorem Sit.status {main : Bool} {s : Seat} {n : Nat} {g : Goroutine} (hs : Sit P main s n g) : (g.status = .running ∧ 0 < n) ∨ (g.status = .blocked ∧ n = 0) := by
  rcases hs with ⟨rfl, rfl⟩ | ⟨k, rfl, hw⟩
  · exact .inr ⟨rfl, rfl⟩
  · exact .inl ⟨hw.running, by omega⟩
theorem Idle.awake {i n : Nat} {g : Goroutine} {o : Option Seat} (hi : Idle P T i n g o) : awake g := by
  cases o with
  | none => exact awake_of (hi.2.status.elim .inl fun x => .inr (.inr x))
  | some s => exact awake_of ((Sit.status hi).elim (fun x => .inl x.1) fun x => .inr (.inl x.1))
theorem Idle.woken {i n : Nat} {g a a' : Goroutine} {w : World} {o : Option Seat} (hi : Idle P T i n g o) (hf : ∀ s, o = some s → open0 w s.c) : woken P a a' w g = g := by
  cases o with
  | none => exact woken_quitsD hi.2
  | some s =>
    rcases hi with ⟨rfl, rfl⟩ | ⟨k, rfl, hw⟩
    · obtain ⟨m, hm⟩ := hf s rfl
      exact woken_recv_open _ _ hm
    · exact woken_run hw.running
theorem Core.awake (C : Core P I N h T gs w q) {x : Goroutine} (hx : gs[h]? = some x) (ha : awake x) : ∀ g ∈ gs, awake g := by
  intro g hg
  obtain ⟨i, hi, rfl⟩ := Array.mem_iff_getElem.1 hg
  by_cases e : i = h
  · subst e
    rw [Array.getElem?_eq_getElem hi] at hx
    exact Option.some.inj hx ▸ ha
  · exact (C.idle i _ e (Array.getElem?_eq_getElem hi)).awake
theorem Core.at (C : Core P I N h T gs w q) (d : Nat) : Core P I N h T gs (w.at d) q := ⟨C.size, C.idle, floor_at d C.floor, C.inj, C.bare, C.lt, C.past, C.above⟩

theorem evRead_ops {s : Seat} {i : Nat} {fn : FuncId} {pos : String} {es : Array Event} (h : ∀ e ∈ es, ∃ a, e = ⟨.cell a, false, false⟩ ∧ s.St (.cell a)) :
    (∀ op ∈ MemOp.ofEvents i fn pos es, op.g = i) ∧ (∀ op ∈ MemOp.ofEvents i fn pos es, ∀ b, op.act.touch? = some b → b.write = false ∧ s.St b.loc) ∧ ∀ t : Trace, Deaf (t ++ MemOp.ofEvents i fn pos es) i = Deaf t i := by
  refine ⟨fun op hop => by obtain ⟨e, _, rfl⟩ := Conc.mem_ofEvents hop; rfl, fun op hop b hb => ?_, fun t => ?_⟩
  · obtain ⟨e, he, rfl⟩ := Conc.mem_ofEvents hop
    obtain ⟨a, rfl, hS⟩ := h e he
    simp only [ofEvent_cell0, MemAct.touch?, Option.some.injEq] at hb
    subst hb
    exact ⟨rfl, hS⟩
  · rw [Deaf_own]
    exact deafBehind_still (fun e he => by obtain ⟨a, rfl, _⟩ := h e he; exact ⟨by simp, by simp⟩) _
theorem evH_ops {i : Nat} {fn : FuncId} {pos : String} {es : Array Event} (h : ∀ e ∈ es, EvH I e) :
    (∀ op ∈ MemOp.ofEvents i fn pos es, op.g = i) ∧ (∀ op ∈ MemOp.ofEvents i fn pos es, ∀ b, op.act.touch? = some b → b.write = true → ∀ g S, stills I g = some S → ¬ S b.loc) ∧ ∀ t : Trace, Deaf (t ++ MemOp.ofEvents i fn pos es) i = Deaf t i := by
  refine ⟨fun op hop => by obtain ⟨e, _, rfl⟩ := Conc.mem_ofEvents hop; rfl, fun op hop b hb hw g S hS => ?_, fun t => ?_⟩
  · obtain ⟨e, he, rfl⟩ := Conc.mem_ofEvents hop
    obtain ⟨s, hs, rfl⟩ := Option.map_eq_some_iff.1 hS
    exact (h e he).1 b hb hw g s hs
  · rw [Deaf_own]
    exact deafBehind_still (fun e he => ⟨(h e he).2.1, (h e he).2.2⟩) _

/-- Somebody's record is laid anew; the others are left as they are. -/
theorem Core.lay (C : Core P I N h T gs w q) {i : Nat} {x : Goroutine} {n : Nat} {T' : Trace} {w' : World} (gs' : Array Goroutine) (hsz : gs'.size = gs.size) (hot : ∀ j, j ≠ i → gs'[j]? = gs[j]?) (hi : gs'[i]? = some x) (hih : i ≠ h)
    (hfl : Floor I w') (hid : Idle P T' i n x (I i)) (hD : ∀ j, j ≠ i → Deaf T' j = Deaf T j) (hp : PastR (stills I) h T') : Core P I N h T' gs' w' (upd q i n) := by
  refine ⟨hsz.trans C.size, fun j g hj hg => ?_, hfl, C.inj, C.bare, C.lt, hp, fun j hj => ?_⟩
  · by_cases e : j = i
    · subst e
      rw [hi] at hg
      obtain rfl := Option.some.inj hg
      rw [upd_same]; exact hid
    · rw [hot j e] at hg
      rw [upd_ne q n e]
      have := C.idle j g hj hg
      cases ho : I j with
      | none => rw [ho] at this; exact ⟨this.1, by rw [hD j e]; exact this.2⟩
      | some s => rw [ho] at this; exact this
  · have hlt : i < N := by rw [← C.size, ← hsz]; exact (Array.getElem?_eq_some_iff.1 hi).1
    rw [hD j (by omega)]
    exact C.above j hj

theorem upd_less {f : Nat → Nat} {i n N : Nat} (hi : i < N) (hlt : n < f i) : sumTo N (upd f i n) < sumTo N f := by
  have h1 : sumTo N (upd f i n) + f i = sumTo N f + n := sumTo_upd f n id hi
  omega

/-- Somebody who does not hold the baton takes a step. x: the record that stands at the holder's place; c: the channel at which it offers to send, if it does. -/
theorem tail_moves (C : Core P I N h T gs w q) {x : Goroutine} (hx : gs[h]? = some x) (hwk : ∀ a a', woken P a a' w x = x) {i : Nat} {g : Goroutine} (hih : i ≠ h) (hi : gs[i]? = some g) (hg : g.status = .running) (sl : Option (Nat × Nat)) :
    (∃ gs' ops n, runT P (crowd gs w sl) i = (.next (crowd gs' w sl), ops) ∧ n < q i ∧ gs'[h]? = some x ∧ Core P I N h (T ++ ops) gs' w (upd q i n) ∧ (∀ s, I i = some s → 0 < n)) ∨
    (∃ s es, I i = some s ∧ q i = 1 ∧ stepG P (i == 0) g w = .comm s.r #[rcase s.c s.z] true (.recv false) w es ∧ ∀ e ∈ es, ∃ a, e = ⟨.cell a, false, false⟩ ∧ s.St (.cell a)) := by
  have hlt : i < gs.size := (Array.getElem?_eq_some_iff.1 hi).1
  have hid := C.idle i g hih hi
  -- the records behind a plain step of i's
  have recs : ∀ g', (∀ j, j ≠ i → ((gs.map (woken P g g' w)).setIfInBounds i g')[j]? = gs[j]?) ∧ ((gs.map (woken P g g' w)).setIfInBounds i g')[i]? = some g' := by
    intro g'
    refine ⟨fun j hj => ?_, by rw [Array.getElem?_setIfInBounds_self_of_lt (by simpa using hlt)]⟩
    rw [Array.getElem?_setIfInBounds_ne (Ne.symm hj), Array.getElem?_map]
    cases hgj : gs[j]? with
    | none => rfl
    | some y =>
      by_cases e : j = h
      · subst e
        rw [hx] at hgj
        obtain rfl := Option.some.inj hgj
        simp [hwk]
      · have := C.idle j y e hgj
        simp [this.woken (fun s hs => C.floor.chans j s hs)]
  cases ho : I i with
  | none =>
    rw [ho] at hid
    obtain ⟨hpos, hq⟩ := hid
    have hi0 : (i == 0) = false := by simp; omega
    cases hqi : q i with
    | zero => rw [hqi] at hq; rw [hq.1] at hg; cases hg
    | succ k =>
      rw [hqi] at hq
      rcases hq with ⟨hf, _⟩ | ⟨_, g', es, hm, hstp, hq'⟩
      · rw [hf] at hg; cases hg
      have hrunT := runT_crowd_go (P := P) (sl := sl) (i := i) hi (by rw [hi0]; exact hstp w)
      have hops : ∀ op ∈ MemOp.ofEvents i g.frame.fn g.frame.place es, op.g = i := fun op hop => by obtain ⟨e, _, rfl⟩ := Conc.mem_ofEvents hop; rfl
      obtain ⟨r1, r2⟩ := recs g'
      refine .inl ⟨_, _, k, hrunT, by omega, by rw [r1 h (Ne.symm hih)]; exact hx, C.lay _ (by simp) r1 r2 hih C.floor ?_ (fun j hj => Deaf_other T (Ne.symm hj) _ hops) ?_, fun s hs => by cases hs⟩
      · rw [ho]
        exact ⟨hpos, by rw [Deaf_own]; exact hq'⟩
      · refine C.past.appMute hops (fun op hop => by obtain ⟨e, he, rfl⟩ := Conc.mem_ofEvents hop; exact touch_mute (hm e he)) fun hmem => ?_
        rcases hmem with e | e
        · exact absurd e hih
        · simp [stills, ho] at e
  | some s =>
    rw [ho] at hid
    have hrd := C.floor.reads i s ho
    have hst : stills I i = some s.St := by simp [stills, ho]
    rcases hid with ⟨_, rfl⟩ | ⟨k, hk, hw⟩
    · cases hg
    cases hw with
    | here hs es hes hstp => exact .inr ⟨s, es w, rfl, hk, hstp w hrd, hes w hrd⟩
    | @step n _ g' hs es hes hstp hw' =>
      have hrunT := runT_crowd_go (P := P) (sl := sl) (i := i) hi (hstp w hrd)
      obtain ⟨hops, hr, hD⟩ := evRead_ops (i := i) (fn := g.frame.fn) (pos := g.frame.place) (hes w hrd)
      obtain ⟨r1, r2⟩ := recs g'
      refine .inl ⟨_, _, n + 1, hrunT, by omega, by rw [r1 h (Ne.symm hih)]; exact hx, C.lay _ (by simp) r1 r2 hih C.floor ?_ (fun j hj => Deaf_other T (Ne.symm hj) _ hops) (C.past.appRead hst hops hr (hD T)), fun _ _ => by omega⟩
      rw [ho]
      exact .inr ⟨n, rfl, hw'⟩

/-- .. and parks, where nobody offers to send to it. -/
theorem tail_parks (C : Core P I N h T gs w q) {x : Goroutine} (hx : gs[h]? = some x) {i : Nat} {g : Goroutine} (hih : i ≠ h) (hi : gs[i]? = some g) {s : Seat} {es : Array Event} (ho : I i = some s)
    (hstp : stepG P (i == 0) g w = .comm s.r #[rcase s.c s.z] true (.recv false) w es) (hes : ∀ e ∈ es, ∃ a, e = ⟨.cell a, false, false⟩ ∧ s.St (.cell a)) (hnx : offersAt x s.c true = []) (hq : q i = 1) (sl : Option (Nat × Nat)) :
    ∃ gs' ops, runT P (crowd gs w sl) i = (.next (crowd gs' w sl), ops) ∧ gs'[h]? = some x ∧ Core P I N h (T ++ ops) gs' w (upd q i 0) ∧ (∀ j, j ≠ i → gs'[j]? = gs[j]?) := by
  have hlt : i < gs.size := (Array.getElem?_eq_some_iff.1 hi).1
  have hst : stills I i = some s.St := by simp [stills, ho]
  obtain ⟨k, hk⟩ := C.floor.chans i s ho
  have hp : partners (gs.setIfInBounds i ph) s.c true = [] := by
    refine partners_nil fun j y hy => ?_
    rcases getElem?_stand gs i j y hy with ⟨_, rfl⟩ | ⟨hj, hy'⟩
    · exact offersAt_ph _ _
    by_cases e : j = h
    · subst e
      rw [hx] at hy'
      obtain rfl := Option.some.inj hy'
      exact hnx
    · have := C.idle j y e hy'
      cases hoj : I j with
      | none => rw [hoj] at this; exact offersAt_of_not_blocked (by rcases this.2.status with hh | hh <;> rw [hh] <;> simp) _ _
      | some s' =>
        rw [hoj] at this
        rcases this with ⟨_, rfl⟩ | ⟨_, _, hw⟩
        · exact offersAt_parked_recv' _ _ _ _ _
        · exact offersAt_of_not_blocked (by rw [hw.running]; simp) _ _
  have hrun := crowd_waits (P := P) (sl := sl) hi hstp (fun cc hcc => by
    simp only [List.mem_toArray, List.mem_cons, List.not_mem_nil, or_false] at hcc
    subst hcc
    exact ways_recv_none hk hp)
  obtain ⟨hops, hr, hD⟩ := evRead_ops (i := i) (fn := g.frame.fn) (pos := g.frame.place) hes
  have r1 : ∀ j, j ≠ i → (gs.setIfInBounds i (parked s.r #[rcase s.c s.z] (.recv false)))[j]? = gs[j]? := fun j hj => Array.getElem?_setIfInBounds_ne (Ne.symm hj)
  refine ⟨_, _, hrun, by rw [r1 h (Ne.symm hih)]; exact hx, C.lay (n := 0) _ (by simp) r1 (Array.getElem?_setIfInBounds_self_of_lt hlt) hih C.floor ?_ (fun j hj => Deaf_other T (Ne.symm hj) _ hops) (C.past.appRead hst hops hr (hD T)), r1⟩
  rw [ho]
  exact .inl ⟨rfl, rfl⟩
end
end Go.Proofs.Ytoabkcalphpkhaa

/- The run of goroutines of which one holds the baton: its tree of steps, whoever is picked when; and that the machine carries it out to its end upon every tape. No program in sight. -/
namespace Go.Proofs.Ytoabkcalphpkhaa
open Go Go.Conc
open Go.ConcN (sumTo upd sumTo_upd upd_ne upd_same le_sumTo)
set_option linter.unusedVariables false
set_option linter.unusedSimpArgs false
set_option linter.unusedSectionVars false

def Seats.set (I : Seats) (h : Nat) (o : Option Seat) : Seats := fun i => if i = h then o else I i
@[simp] theorem Seats.set_same (I : Seats) (h : Nat) (o : Option Seat) : I.set h o h = o := by simp [Seats.set]
theorem Seats.set_ne (I : Seats) {h i : Nat} (o : Option Seat) (e : i ≠ h) : I.set h o i = I i := by simp [Seats.set, e]

/-- A new seat may be taken. -/
structure SeatOk (I : Seats) (s : Seat) (w : World) : Prop where
  reads : s.reads w
  chan : open0 w s.c
  own : ∀ i s', I i = some s' → s'.c ≠ s.c
/-- What becomes of whoever has given the baton away. -/
def After (P : Program) (I : Seats) (h n : Nat) (g : Goroutine) (w : World) : Option Seat → Prop
  | none => 0 < h ∧ QuitsD P n 0 g
  | some s => SeatOk I s w ∧ Way P (h == 0) s n g
def qOf (n : Nat) : Option Seat → Nat
  | none => n
  | some _ => n + 1

inductive Win (P : Program) (Post : Value → World → Prop) : Nat → Nat → Goroutine → World → Seats → Prop
  | step {N h : Nat} {g : Goroutine} {w : World} {I : Seats} (hrun : g.status = .running) (g' : Nat → Goroutine) (w' : Nat → World) (es : Nat → Array Event)
      (hst : ∀ d, stepG P (h == 0) g (w.at d) = .go (g' d) (w' d) (es d)) (hes : ∀ d, ∀ e ∈ es d, EvH I e) (hfl : ∀ d, Floor I (w' d)) (hw : ∀ d, Win P Post N h (g' d) (w' d) I) : Win P Post N h g w I
  | hire {N h : Nat} {g : Goroutine} {w : World} {I : Seats} (hrun : g.status = .running) (g' child : Nat → Goroutine) (w' : Nat → World) (es : Nat → Array Event) (s : Nat → Seat) (n : Nat → Nat)
      (hst : ∀ d, stepG P (h == 0) g (w.at d) = .spawn (g' d) (child d) (w' d) (es d)) (hes : ∀ d, ∀ e ∈ es d, EvH I e) (hfl : ∀ d, Floor I (w' d)) (hs : ∀ d, SeatOk I (s d) (w' d)) (hway : ∀ d, Way P (h == 0) (s d) (n d) (g' d))
      (hw : ∀ d, Win P Post (N + 1) N (child d) (w' d) (I.set h (some (s d)))) : Win P Post N h g w I
  | give {N h : Nat} {g : Goroutine} {w : World} {I : Seats} {j : Nat} {s : Seat} {v : Value} (hrun : g.status = .running) (hj : I j = some s) (g₂ : Nat → Goroutine) (w' : Nat → World) (es : Nat → Array Event) (z : Nat → Value)
      (hst : ∀ d, stepG P (h == 0) g (w.at d) = .comm (g₂ d) #[scase s.c v (z d)] true .send (w' d) (es d)) (hes : ∀ d, ∀ e ∈ es d, EvH I e) (hfl : ∀ d, Floor I (w' d)) (o : Nat → Option Seat) (n : Nat → Nat)
      (hafter : ∀ d, After P I h (n d) (Conc.served (g₂ d) undef) (w' d) (o d)) (hw : ∀ d d' k, Win P Post N j (Conc.served s.r v) (((w' d).at d').setChan s.c 0 #[] false k k false) ((I.set h (o d)).set j none)) : Win P Post N h g w I
  | done {N : Nat} {g : Goroutine} {w : World} {I : Seats} (hrun : g.status = .running) (hI : ∀ i, I i = none) (v : Nat → Value) (es : Nat → Array Event) (hst : ∀ d, stepG P true g (w.at d) = .ended (.done (v d)) (w.at d) (es d))
      (hes : ∀ d, ∀ e ∈ es d, EvH I e) (hpost : ∀ d, Post (v d) (w.at d)) : Win P Post N 0 g w I

def Ends (P : Program) (Post : Value → World → Prop) (m : Machine) (t : Trace) : Prop :=
  ∃ n last o w t', runNT P (n + 1) m t = (.ended o w, t') ∧ runN P n m = .next last ∧ step P last = .ended o w ∧ Good P Post last o w t'

section
variable {P : Program} {Post : Value → World → Prop} {I : Seats} {N h : Nat} {T : Trace} {gs : Array Goroutine} {w : World} {q : Nat → Nat}

theorem Ends.step {m m' : Machine} {t : Trace} {ops : Array MemOp} (hs : stepT P m = (.next m', ops)) (h : Ends P Post m' (t ++ ops)) : Ends P Post m t := by
  obtain ⟨n, last, o, w, t', h1, h2, h3, h4⟩ := h
  exact ⟨n + 1, last, o, w, t', by rw [runNT_succ_next hs]; exact h1, by rw [runN_succ_next hs]; exact h2, h3, h4⟩
theorem Ends.now {m : Machine} {t : Trace} {o : Outcome} {w : World} {ops : Array MemOp} (hs : stepT P m = (.ended o w, ops)) (h : Good P Post m o w (t ++ ops)) : Ends P Post m t :=
  ⟨0, m, o, w, t ++ ops, by simp [runNT, hs], rfl, by simp [Go.step, hs], h⟩

/-- The holder could go, and so could others. -/
theorem hold_pick {g : Goroutine} (hrun : g.status = .running)
    (hh : ∀ gs sl T q d, Core P I N h T gs (w.at d) q → gs[h]? = some g → (∃ m' ops, runT P (crowd gs (w.at d) sl) h = (.next m', ops) ∧ Ends P Post m' (T ++ ops)) ∨
      (∃ o w' ops, runT P (crowd gs (w.at d) sl) h = (.ended o w', ops) ∧ ∀ w₀ sl₀, Good P Post (crowd gs w₀ sl₀) o w' (T ++ ops))) :
    ∀ (M : Nat) gs sl T q d, sumTo N q ≤ M → Core P I N h T gs (w.at d) q → gs[h]? = some g → Ends P Post (crowd gs (w.at d) sl) T := by
  intro M
  induction M with
  | zero =>
    intro gs sl T q d hM C hg
    obtain ⟨i, g', d', sl', hi, hg', hst⟩ := crowd_pick (P := P) (w := w.at d) (sl := sl) (C.awake hg (awake_of (.inl hrun))) ⟨h, g, hg, hrun⟩
    have Cd : Core P I N h T gs (w.at d') q := C.at d'
    by_cases e : i = h
    · subst e
      rcases hh gs sl' T q d' Cd hg with ⟨m', ops, h1, h2⟩ | ⟨o, w', ops, h1, h2⟩
      · exact Ends.step (hst.trans h1) h2
      · exact Ends.now (hst.trans h1) (h2 _ _)
    · have hlt : i < N := by rw [← C.size]; exact (Array.getElem?_eq_some_iff.1 hi).1
      have hq : q i ≤ sumTo N q := le_sumTo (f := q) hlt
      have := C.idle i g' e hi
      cases ho : I i with
      | none =>
        rw [ho] at this
        have h0 : q i = 0 := by omega
        rw [h0] at this
        rw [this.2.1] at hg'; cases hg'
      | some s =>
        rw [ho] at this
        rcases Sit.status this with ⟨_, hx⟩ | ⟨hx, _⟩
        · omega
        · rw [hx] at hg'; cases hg'
  | succ M ih =>
    intro gs sl T q d hM C hg
    obtain ⟨i, g', d', sl', hi, hg', hst⟩ := crowd_pick (P := P) (w := w.at d) (sl := sl) (C.awake hg (awake_of (.inl hrun))) ⟨h, g, hg, hrun⟩
    have Cd : Core P I N h T gs (w.at d') q := C.at d'
    by_cases e : i = h
    · subst e
      rcases hh gs sl' T q d' Cd hg with ⟨m', ops, h1, h2⟩ | ⟨o, w', ops, h1, h2⟩
      · exact Ends.step (hst.trans h1) h2
      · exact Ends.now (hst.trans h1) (h2 _ _)
    · have hlt : i < N := by rw [← C.size]; exact (Array.getElem?_eq_some_iff.1 hi).1
      rcases tail_moves Cd hg (fun a a' => woken_run hrun) e hi hg' sl' with ⟨gs', ops, n, h1, h2, h3, h4, _⟩ | ⟨s, es, ho, hq1, hstp, hes⟩
      · have := upd_less (f := q) hlt h2
        exact Ends.step (hst.trans h1) (ih gs' sl' _ _ d' (by omega) h4 h3)
      · obtain ⟨gs', ops, h1, h3, h4, _⟩ := tail_parks Cd hg e hi ho hstp hes (offersAt_of_not_blocked (by rw [hrun]; simp) _ _) hq1 sl'
        have := upd_less (f := q) (n := 0) hlt (by omega)
        exact Ends.step (hst.trans h1) (ih gs' sl' _ _ d' (by omega) h4 h3)

/-- Behind a meeting. -/
theorem Core.pass (C : Core P I N h T gs w q) {j : Nat} {s : Seat} (hj : I j = some s) {T₁ : Trace} (hp : PastR (stills I) h T₁) (hD : ∀ i, Deaf T₁ i = Deaf T i) {gs' : Array Goroutine} {x : Goroutine} (hsz : gs'.size = gs.size)
    (hh : gs'[h]? = some x) (hot : ∀ i, i ≠ h → i ≠ j → gs'[i]? = gs[i]?) {o : Option Seat} {n : Nat} (ha : After P I h n x w o) (fh : FuncId) (ph : String) (fj : FuncId) (pj : String) (k k' : Nat) :
    Core P ((I.set h o).set j none) N j (T₁ ++ met h j fh ph fj pj s.c k 0) gs' (w.setChan s.c 0 #[] false k' k' false) (upd q h (qOf n o)) := by
  have hhj : h ≠ j := fun e => by rw [← e, C.bare] at hj; cases hj
  have hDm : ∀ i, Deaf (T₁ ++ met h j fh ph fj pj s.c k 0) i = Deaf T i := fun i => (Deaf_quiet (met_quiet _ _ _ _ _ _ _ _ _ i)).trans (hD i)
  have hc : open0 w s.c := C.floor.chans j s hj
  have hjlt : j < N := Nat.lt_of_not_le fun hle => by rw [(C.above j hle).2] at hj; cases hj
  have hI : ∀ i, i ≠ h → i ≠ j → ((I.set h o).set j none) i = I i := fun i e1 e2 => by rw [Seats.set_ne _ _ e2, Seats.set_ne _ _ e1]
  have hIh : ((I.set h o).set j none) h = o := by rw [Seats.set_ne _ _ hhj, Seats.set_same]
  have hIj : ((I.set h o).set j none) j = none := Seats.set_same _ _ _
  have hsub : ∀ i s', ((I.set h o).set j none) i = some s' → (i = h ∧ o = some s') ∨ (i ≠ h ∧ i ≠ j ∧ I i = some s') := by
    intro i s' hi
    by_cases e2 : i = j
    · rw [e2, hIj] at hi; cases hi
    by_cases e1 : i = h
    · rw [e1, hIh] at hi; exact .inl ⟨e1, hi⟩
    · rw [hI i e1 e2] at hi; exact .inr ⟨e1, e2, hi⟩
  refine ⟨hsz.trans C.size, fun i g hi hg => ?_, ⟨fun i s' hi p hp' => ?_, fun i s' hi => ?_⟩, fun i i' s₁ s₂ h1 h2 hcc => ?_, hIj, hjlt, ?_, fun i hi => ⟨(hDm i).trans (C.above i hi).1, ?_⟩⟩
  · by_cases e : i = h
    · subst e
      rw [hh] at hg
      obtain rfl := Option.some.inj hg
      rw [hIh, upd_same]
      cases o with
      | none => exact ⟨ha.1, by rw [hDm, ← hD, hp.hears i (.inl rfl)]; exact ha.2⟩
      | some s' => exact .inr ⟨n, rfl, ha.2⟩
    · rw [hot i e hi] at hg
      rw [hI i e hi, upd_ne _ _ e]
      have := C.idle i g e hg
      cases ho : I i with
      | none => rw [ho] at this; exact ⟨this.1, by rw [hDm]; exact this.2⟩
      | some s' => rw [ho] at this; exact this
  · rcases hsub i s' hi with ⟨_, rfl⟩ | ⟨_, _, hi'⟩
    · exact cell_setChan hc (ha.1.reads p hp')
    · exact cell_setChan hc (C.floor.reads i s' hi' p hp')
  · have key : ∀ s' : Seat, open0 w s'.c → open0 (w.setChan s.c 0 #[] false k' k' false) s'.c := by
      intro s' ⟨k₁, hk₁⟩
      by_cases e : s.c = s'.c
      · exact ⟨k', by rw [← e]; rw [← e] at hk₁; exact heap_setChan_self w hk₁ _ _ _ _ _ _⟩
      · exact ⟨k₁, by rw [heap_setChan_ne w _ _ _ _ _ _ e]; exact hk₁⟩
    rcases hsub i s' hi with ⟨_, rfl⟩ | ⟨_, _, hi'⟩
    · exact key s' ha.1.chan
    · exact key s' (C.floor.chans i s' hi')
  · rcases hsub i s₁ h1 with ⟨e1, ho1⟩ | ⟨e1, _, h1'⟩ <;> rcases hsub i' s₂ h2 with ⟨e2, ho2⟩ | ⟨e2, _, h2'⟩
    · rw [e1, e2]
    · subst ho1; exact absurd hcc.symm (ha.1.own i' s₂ h2')
    · subst ho2; exact absurd hcc (ha.1.own i s₁ h1')
    · exact C.inj i i' s₁ s₂ h1' h2' hcc
  · refine (hp.give (S := o.map Seat.St) (j := j) (by simp [stills, hj]) hhj ?_ fh ph fj pj (c := s.c) k 0).congr fun g => ?_
    · intro S' hS' l hl
      obtain ⟨s', _, rfl⟩ := Option.map_eq_some_iff.1 hS'
      obtain ⟨p, _, rfl⟩ := hl
      rfl
    · unfold passed stills Seats.set
      by_cases e1 : g = j
      · simp [e1]
      · by_cases e2 : g = h
        · subst e2
          simp [e1]
        · simp [e1, e2]
  · rw [hI i (by have := C.lt; omega) (by omega)]
    exact (C.above i hi).2

theorem at_at2 (w : World) (a b : Nat) : (w.at a).at b = w.at b := rfl

/-- The giver waits at its send; whom it gives to is on its way. -/
theorem offer_pick {j : Nat} {s : Seat} {g₂ : Goroutine} {v z : Value} (hj : I j = some s) {o : Option Seat} {n : Nat} (ha : After P I h n (Conc.served g₂ undef) w o)
    (hh : ∀ gs' sl T' q' d k, Core P ((I.set h o).set j none) N j T' gs' ((w.at d).setChan s.c 0 #[] false k k false) q' → gs'[j]? = some (Conc.served s.r v) → Ends P Post (crowd gs' ((w.at d).setChan s.c 0 #[] false k k false) sl) T') :
    ∀ (M : Nat) gs sl T q d, sumTo N q ≤ M → 0 < q j → Core P I N h T gs (w.at d) q → gs[h]? = some (parked g₂ #[scase s.c v z] .send) → Ends P Post (crowd gs (w.at d) sl) T := by
  intro M
  induction M with
  | zero =>
    intro gs sl T q d hM hqj C hg
    have hjlt : j < N := Nat.lt_of_not_le fun hle => by rw [(C.above j hle).2] at hj; cases hj
    have : q j ≤ sumTo N q := le_sumTo (f := q) hjlt
    omega
  | succ M ih =>
    intro gs sl T q d hM hqj C hg
    have hhj : j ≠ h := fun e => by rw [e, C.bare] at hj; cases hj
    have hjlt : j < N := Nat.lt_of_not_le fun hle => by rw [(C.above j hle).2] at hj; cases hj
    obtain ⟨k, hk⟩ := C.floor.chans j s hj
    obtain ⟨gj, hgj⟩ : ∃ gj, gs[j]? = some gj := ⟨_, Array.getElem?_eq_getElem (by rw [C.size]; exact hjlt)⟩
    have hjr : gj.status = .running := by
      have := C.idle j gj hhj hgj
      rw [hj] at this
      rcases Sit.status this with ⟨hx, _⟩ | ⟨_, hx⟩
      · exact hx
      · omega
    obtain ⟨i, g', d', sl', hi, hg', hst⟩ := crowd_pick (P := P) (w := w.at d) (sl := sl) (C.awake hg (awake_of (.inr (.inl rfl)))) ⟨j, gj, hgj, hjr⟩
    have Cd : Core P I N h T gs (w.at d') q := C.at d'
    have e : i ≠ h := fun e => by
      subst e
      rw [hg] at hi
      obtain rfl := Option.some.inj hi
      cases hg'
    have hlt : i < N := by rw [← C.size]; exact (Array.getElem?_eq_some_iff.1 hi).1
    rcases tail_moves Cd hg (fun a a' => woken_send_open a a' hk) e hi hg' sl' with ⟨gs', ops, n', h1, h2, h3, h4, h5⟩ | ⟨s', es, ho, hq1, hstp, hes⟩
    · have hl := upd_less (f := q) hlt h2
      refine Ends.step (hst.trans h1) (ih gs' sl' _ _ d' (by omega) ?_ h4 h3)
      by_cases eij : j = i
      · subst eij
        rw [upd_same]
        exact h5 s hj
      · rw [upd_ne q n' eij]; exact hqj
    · by_cases eij : i = j
      · -- it has come: they meet
        subst eij
        rw [hj] at ho
        obtain rfl := Option.some.inj ho
        have hp : partners (gs.setIfInBounds i ph) s.c true = [(h, 0)] := by
          rw [partners_one (j := h) (g := parked g₂ #[scase s.c v z] .send) (stand_get (Ne.symm e) hg) (fun m y hm hy => ?_), offersAt_parked_send, if_pos rfl]
          · rfl
          · rcases getElem?_stand gs i m y hy with ⟨_, rfl⟩ | ⟨hmj, hy'⟩
            · exact offersAt_ph _ _
            · have := Cd.idle m y hm hy'
              cases hom : I m with
              | none => rw [hom] at this; exact offersAt_of_not_blocked (by rcases this.2.status with hh | hh <;> rw [hh] <;> simp) _ _
              | some s'' =>
                rw [hom] at this
                rcases this with ⟨_, rfl⟩ | ⟨_, _, hw⟩
                · exact offersAt_parked_recv' _ _ _ _ _
                · exact offersAt_of_not_blocked (by rw [hw.running]; simp) _ _
        have hmeet := crowd_recv_meets (P := P) (sl := sl') hi hstp hk (Ne.symm e) hg hp
        refine Ends.step (hst.trans hmeet) ?_
        obtain ⟨hops, hr, hDe⟩ := evRead_ops (i := i) (fn := g'.frame.fn) (pos := g'.frame.place) hes
        have hst' : stills I i = some s.St := by simp [stills, hj]
        have p1 := Cd.past.appRead hst' hops hr (hDe T)
        have hD1 : ∀ x, Deaf (T ++ MemOp.ofEvents i g'.frame.fn g'.frame.place es) x = Deaf T x := fun x => by
          by_cases ex : x = i
          · subst ex; exact hDe T
          · exact Deaf_other T (Ne.symm ex) _ hops
        have hil : i < gs.size := by rw [C.size]; exact hlt
        have hhl : h < gs.size := by rw [C.size]; exact C.lt
        have Cp := Cd.pass hj p1 hD1 (gs' := (gs.setIfInBounds h (g₂.finishComm P #[scase s.c v z] .send 0 undef false)).setIfInBounds i (s.r.finishComm P #[rcase s.c s.z] (.recv false) 0 v true)) (x := Conc.served g₂ undef) (by simp)
          (by rw [Array.getElem?_setIfInBounds_ne e, Array.getElem?_setIfInBounds_self_of_lt hhl]; rfl)
          (fun m e1 e2 => by rw [Array.getElem?_setIfInBounds_ne (Ne.symm e2), Array.getElem?_setIfInBounds_ne (Ne.symm e1)]) (o := o) (n := n) (w := w.at d')
          (by cases o with
            | none => exact ha
            | some s' => exact ⟨⟨ha.1.reads, ha.1.chan, ha.1.own⟩, ha.2⟩) g₂.frame.fn g₂.frame.place s.r.frame.fn s.r.frame.place k (k + 1)
        have := hh _ sl' _ _ d' (k + 1) Cp (by rw [Array.getElem?_setIfInBounds_self_of_lt (by simpa using hil), finishComm_recv]; rfl)
        rw [Array.append_assoc] at this
        exact this
      · have hsc : s.c ≠ s'.c := fun ec => eij (Cd.inj i j s' s ho hj ec.symm)
        obtain ⟨gs', ops, h1, h3, h4, _⟩ := tail_parks Cd hg e hi ho hstp hes (by rw [offersAt_parked_send, if_neg hsc]) hq1 sl'
        have := upd_less (f := q) (n := 0) hlt (by omega)
        exact Ends.step (hst.trans h1) (ih gs' sl' _ _ d' (by omega) (by rw [upd_ne q 0 (Ne.symm eij)]; exact hqj) h4 h3)

theorem Core.own (C : Core P I N h T gs w q) {x : Goroutine} {gs' : Array Goroutine} {w' : World} {fn : FuncId} {pos : String} {es : Array Event} (hes : ∀ e ∈ es, EvH I e) (hsz : gs'.size = gs.size) (hot : ∀ i, i ≠ h → gs'[i]? = gs[i]?) (hfl : Floor I w') :
    Core P I N h (T ++ MemOp.ofEvents h fn pos es) gs' w' q := by
  obtain ⟨hops, hs, hD⟩ := evH_ops (i := h) (fn := fn) (pos := pos) hes
  have hDo : ∀ j, Deaf (T ++ MemOp.ofEvents h fn pos es) j = Deaf T j := fun j => by
    by_cases e : j = h
    · subst e; exact hD T
    · exact Deaf_other T (Ne.symm e) _ hops
  refine ⟨hsz.trans C.size, fun i g hi hg => ?_, hfl, C.inj, C.bare, C.lt, C.past.appH hops hs (hD T), fun j hj => by rw [hDo]; exact C.above j hj⟩
  rw [hot i hi] at hg
  have := C.idle i g hi hg
  cases ho : I i with
  | none => rw [ho] at this; exact ⟨this.1, by rw [hDo]; exact this.2⟩
  | some s => rw [ho] at this; exact this

/-- The holder makes a goroutine and gives it the baton. -/
theorem Core.hired (C : Core P I N h T gs w q) (hg : ∃ a, gs[h]? = some a) {g' child : Goroutine} {s : Seat} {n : Nat} (hs : SeatOk I s w) (hway : Way P (h == 0) s n g') (fh : FuncId) (ph : String) (fc : FuncId) (pc : String) :
    Core P (I.set h (some s)) (N + 1) N (T ++ #[{ g := h, fn := fh, pos := ph, act := .go N }, { g := N, fn := fc, pos := pc, act := .start }]) ((gs.setIfInBounds h g').push child) w (upd q h (n + 1)) := by
  have hlt := C.lt
  have hI : ∀ i, i ≠ h → (I.set h (some s)) i = I i := fun i e => Seats.set_ne _ _ e
  have hD : ∀ j, Deaf (T ++ #[{ g := h, fn := fh, pos := ph, act := .go N }, { g := N, fn := fc, pos := pc, act := .start }]) j = Deaf T j := fun j => Deaf_quiet (fun op hop d => by
    simp only [List.mem_toArray, List.mem_cons, List.not_mem_nil, or_false] at hop
    rcases hop with rfl | rfl <;> rfl)
  have hsub : ∀ i s', (I.set h (some s)) i = some s' → (i = h ∧ s = s') ∨ (i ≠ h ∧ I i = some s') := by
    intro i s' hi
    by_cases e1 : i = h
    · rw [e1, Seats.set_same] at hi; exact .inl ⟨e1, Option.some.inj hi⟩
    · rw [hI i e1] at hi; exact .inr ⟨e1, hi⟩
  refine ⟨by simp [C.size], fun i g hi hgi => ?_, ⟨fun i s' hi => ?_, fun i s' hi => ?_⟩, fun i i' s₁ s₂ h1 h2 hcc => ?_, ?_, by omega, ?_, fun j hj => ⟨(hD j).trans (C.above j (by omega)).1, ?_⟩⟩
  · rw [Array.getElem?_push] at hgi
    rw [if_neg (by simp [C.size]; exact hi)] at hgi
    by_cases e : i = h
    · subst e
      rw [Array.getElem?_setIfInBounds_self_of_lt (by rw [C.size]; exact hlt)] at hgi
      obtain rfl := Option.some.inj hgi
      rw [Seats.set_same, upd_same]
      exact .inr ⟨n, rfl, hway⟩
    · rw [Array.getElem?_setIfInBounds_ne (Ne.symm e)] at hgi
      rw [hI i e, upd_ne _ _ e]
      have := C.idle i g e hgi
      cases ho : I i with
      | none => rw [ho] at this; exact ⟨this.1, by rw [hD]; exact this.2⟩
      | some s' => rw [ho] at this; exact this
  · rcases hsub i s' hi with ⟨_, rfl⟩ | ⟨_, hi'⟩
    · exact hs.reads
    · exact C.floor.reads i s' hi'
  · rcases hsub i s' hi with ⟨_, rfl⟩ | ⟨_, hi'⟩
    · exact hs.chan
    · exact C.floor.chans i s' hi'
  · rcases hsub i s₁ h1 with ⟨e1, ho1⟩ | ⟨e1, h1'⟩ <;> rcases hsub i' s₂ h2 with ⟨e2, ho2⟩ | ⟨e2, h2'⟩
    · rw [e1, e2]
    · subst ho1; exact absurd hcc.symm (hs.own i' s₂ h2')
    · subst ho2; exact absurd hcc (hs.own i s₁ h1')
    · exact C.inj i i' s₁ s₂ h1' h2' hcc
  · rw [hI N (by omega)]; exact (C.above N (Nat.le_refl _)).2
  · refine (C.past.hire (S := s.St) (c := N) (by simp [stills, (C.above N (Nat.le_refl _)).2]) (by omega) (fun l hl => by obtain ⟨p, _, rfl⟩ := hl; rfl) (C.above N (Nat.le_refl _)).1 fh ph fc pc).congr fun g => ?_
    unfold passed stills Seats.set
    by_cases e1 : g = N
    · have : N ≠ h := by omega
      simp [e1, this, (C.above N (Nat.le_refl _)).2]
    · by_cases e2 : g = h
      · subst e2
        simp [e1]
      · simp [e1, e2]
  · rw [hI j (by omega)]; exact (C.above j (by omega)).2

/-- ████ The machine carries it out. ████ -/
theorem Win.ends {g : Goroutine} (hW : Win P Post N h g w I) : ∀ gs sl T q d, Core P I N h T gs (w.at d) q → gs[h]? = some g → Ends P Post (crowd gs (w.at d) sl) T := by
  induction hW with
  | @step N h g w I hrun g' w' es hst hes hfl hw ih =>
    intro gs sl T q d C hg
    refine hold_pick hrun (fun gs sl T q d C hg => .inl ?_) _ gs sl T q d (Nat.le_refl _) C hg
    have hrunT := runT_crowd_go (P := P) (sl := sl) (i := h) hg (hst d)
    refine ⟨_, _, hrunT, ?_⟩
    have C' := C.own (x := g' d) (gs' := (gs.map (woken P g (g' d) (w' d))).setIfInBounds h (g' d)) (w' := w' d) (fn := g.frame.fn) (pos := g.frame.place) (hes d) (by simp) (fun i hi => ?_) (hfl d)
    · exact ih d _ sl _ q (w' d).drawn C' (by rw [Array.getElem?_setIfInBounds_self_of_lt (by simpa [C.size] using C.lt)])
    · rw [Array.getElem?_setIfInBounds_ne (Ne.symm hi), Array.getElem?_map]
      cases hgi : gs[i]? with
      | none => rfl
      | some y => simp [(C.idle i y hi hgi).woken (fun s hs => (hfl d).chans i s hs)]
  | @hire N h g w I hrun g' child w' es s n hst hes hfl hs hway hw ih =>
    intro gs sl T q d C hg
    refine hold_pick hrun (fun gs sl T q d C hg => .inl ?_) _ gs sl T q d (Nat.le_refl _) C hg
    have hrunT := runT_crowd_spawn (P := P) (sl := sl) (i := h) hg (hst d)
    refine ⟨_, _, hrunT, ?_⟩
    have C1 := C.own (x := g) (gs' := gs) (w' := w' d) (fn := g.frame.fn) (pos := g.frame.place) (hes d) rfl (fun i hi => rfl) (hfl d)
    have C2 := C1.hired (child := child d) ⟨g, hg⟩ (hs d) (hway d) g.frame.fn g.frame.place (child d).frame.fn g.frame.place
    have := ih d _ sl _ _ (w' d).drawn C2 (by rw [Array.getElem?_push, if_pos (by simp [C.size])])
    rw [Array.append_assoc] at this
    rw [C.size]
    have e : ∀ (a b : MemOp) (u : Array MemOp), (u.push a).push b = u ++ #[a, b] := fun a b u => by apply Array.ext'; simp
    rw [e]
    exact this
  | @give N h g w I j s v hrun hj g₂ w' es z hst hes hfl o n hafter hw ih =>
    intro gs sl T q d C hg
    have hhj : j ≠ h := fun e => by rw [e, C.bare] at hj; cases hj
    have hjlt : j < N := Nat.lt_of_not_le fun hle => by rw [(C.above j hle).2] at hj; cases hj
    refine hold_pick hrun (fun gs sl T q d C hg => .inl ?_) _ gs sl T q d (Nat.le_refl _) C hg
    obtain ⟨k, hk⟩ := (hfl d).chans j s hj
    obtain ⟨gj, hgj⟩ : ∃ gj, gs[j]? = some gj := ⟨_, Array.getElem?_eq_getElem (by rw [C.size]; exact hjlt)⟩
    have hid := C.idle j gj hhj hgj
    rw [hj] at hid
    have noOne : ∀ m y, m ≠ j → (gs.setIfInBounds h ph)[m]? = some y → offersAt y s.c false = [] := by
      intro m y hm hy
      rcases getElem?_stand gs h m y hy with ⟨_, rfl⟩ | ⟨hmh, hy'⟩
      · exact offersAt_ph _ _
      · have := C.idle m y hmh hy'
        cases hom : I m with
        | none => rw [hom] at this; exact offersAt_of_not_blocked (by rcases this.2.status with hh | hh <;> rw [hh] <;> simp) _ _
        | some s'' =>
          rw [hom] at this
          rcases this with ⟨_, rfl⟩ | ⟨_, _, hw⟩
          · rw [offersAt_parked_recv, if_neg (fun ec => hm (C.inj m j s'' s hom hj ec))]
          · exact offersAt_of_not_blocked (by rw [hw.running]; simp) _ _
    have hhl : h < gs.size := by rw [C.size]; exact C.lt
    have hjl : j < gs.size := by rw [C.size]; exact hjlt
    rcases hid with ⟨hq0, rfl⟩ | ⟨m, hqm, hway⟩
    · -- it sits: they meet
      have hp : partners (gs.setIfInBounds h ph) s.c false = [(j, 0)] := by
        rw [partners_one (stand_get hhj hgj) noOne, offersAt_parked_recv, if_pos rfl]
        rfl
      have hmeet := crowd_send_meets (P := P) (sl := sl) hg (hst d) hk hhj hgj hp
      refine ⟨_, _, hmeet, ?_⟩
      have C1 := C.own (x := g) (gs' := gs) (w' := w' d) (fn := g.frame.fn) (pos := g.frame.place) (hes d) rfl (fun i hi => rfl) (hfl d)
      have Cp := C1.pass hj C1.past (fun _ => rfl) (gs' := (gs.setIfInBounds j (s.r.finishComm P #[rcase s.c s.z] (.recv false) 0 v true)).setIfInBounds h ((g₂ d).finishComm P #[scase s.c v (z d)] .send 0 undef false)) (x := Conc.served (g₂ d) undef) (by simp)
        (by rw [Array.getElem?_setIfInBounds_self_of_lt (by simpa using hhl)]; rfl)
        (fun i e1 e2 => by rw [Array.getElem?_setIfInBounds_ne (Ne.symm e1), Array.getElem?_setIfInBounds_ne (Ne.symm e2)]) (hafter d) (g₂ d).frame.fn (g₂ d).frame.place s.r.frame.fn s.r.frame.place k (k + 1)
      have := ih d (w' d).drawn (k + 1) _ sl _ _ (w' d).drawn Cp (by rw [Array.getElem?_setIfInBounds_ne (Ne.symm hhj), Array.getElem?_setIfInBounds_self_of_lt hjl, finishComm_recv]; rfl)
      rw [Array.append_assoc] at this
      exact this
    · -- it is on its way: the giver waits
      have hp : partners (gs.setIfInBounds h ph) s.c false = [] := by
        refine partners_nil fun i y hy => ?_
        by_cases e : i = j
        · subst e
          rcases getElem?_stand gs h i y hy with ⟨e', _⟩ | ⟨_, hy'⟩
          · exact absurd e' hhj
          · rw [hgj] at hy'
            obtain rfl := Option.some.inj hy'
            exact offersAt_of_not_blocked (by rw [hway.running]; simp) _ _
        · exact noOne i y e hy
      have hwait := crowd_waits (P := P) (sl := sl) hg (hst d) (fun cc hcc => by
        simp only [List.mem_toArray, List.mem_cons, List.not_mem_nil, or_false] at hcc
        subst hcc
        exact ways_send_none hk (Nat.le_refl _) hp)
      refine ⟨_, _, hwait, ?_⟩
      have C1 := C.own (x := g) (gs' := gs.setIfInBounds h (parked (g₂ d) #[scase s.c v (z d)] .send)) (w' := w' d) (fn := g.frame.fn) (pos := g.frame.place) (hes d) (by simp) (fun i hi => Array.getElem?_setIfInBounds_ne (Ne.symm hi)) (hfl d)
      refine offer_pick (P := P) (Post := Post) (w := w' d) hj (hafter d) (fun gs' sl' T' q' d' k' C' hg' => ?_) _ _ sl _ q (w' d).drawn (Nat.le_refl _) (by omega) C1 (by rw [Array.getElem?_setIfInBounds_self_of_lt hhl])
      exact ih d d' k' gs' sl' T' q' d' C' hg'
  | @done N g w I hrun hI v es hst hes hpost =>
    intro gs sl T q d C hg
    refine hold_pick hrun (fun gs sl T q d C hg => .inr ?_) _ gs sl T q d (Nat.le_refl _) C hg
    have hrunT := runT_many_ended (P := P) (sl := sl) (i := 0) hg (show stepG P (0 == 0) g (w.at d) = _ from hst d)
    have C1 := C.own (x := g) (gs' := gs) (w' := w.at d) (fn := g.frame.fn) (pos := g.frame.place) (hes d) rfl (fun i hi => rfl) C.floor
    have hp : PastR (fun _ => none) 0 (T ++ MemOp.ofEvents 0 g.frame.fn g.frame.place (es d)) := C1.past.congr fun g => by simp [stills, hI]
    refine ⟨_, _, _, hrunT, fun w₀ sl₀ => ⟨v d, rfl, hpost d, hp.clean, hp.over, ⟨fun x hx => ?_, rfl⟩, fun j x hx hj => ?_⟩⟩
    · obtain ⟨j, hj⟩ := List.mem_iff_getElem?.1 hx
      rw [List.getElem?_drop] at hj
      have := C.idle (1 + j) x (by omega) (by simpa [crowd] using hj)
      rw [hI] at this
      exact ⟨_, this.2.leaves⟩
    · have hq := C1.idle j x (by omega) hx
      rw [hI] at hq
      exact ⟨q j, hq.2.hears _⟩
end
end Go.Proofs.Ytoabkcalphpkhaa

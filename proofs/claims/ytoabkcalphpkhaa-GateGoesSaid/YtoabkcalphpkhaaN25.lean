/- Merged: Logic. -/
import Derived.Test.YtoabkcalphpkhaaN01
/- A way to reason about threads that go by turns: an invariant of the system and of where each thread stands, kept by each thread at each of its yields; then all turns come to an end, and it holds there. -/
namespace Go.Proofs.Ytoabkcalphpkhaa
set_option linter.unusedVariables false

/-- How a thread stands. -/
inductive Kin where
  | unborn
  | want
  | wait (c : Nat) (seen : Int)
  | ended (out : List Ans)
/-- An invariant. -/
structure Law (G : Type) where
  Inv : Sys → List G → Prop
  kin : G → Kin
  pick : ∀ {s gs} (u : Nat) (l : Int), Inv s gs → Inv { s with used := u, last := l } gs
  jam : ∀ {s gs}, Inv s gs → s.stuck = false → (∀ g ∈ gs, (∃ out, kin g = .ended out) ∨ ∃ c, kin g = .wait c (s.chg.getD c 0)) → (∃ g ∈ gs, ∃ c, kin g = .wait c (s.chg.getD c 0)) → Inv s.jam gs

section
variable {G : Type} (M : Law G) (i : Nat)
/-- Thread i, from here on, keeps the invariant. -/
def Law.W : Proc → Sys → List G → Prop
  | .ret out, s, gs => ∃ g, M.kin g = .ended out ∧ M.Inv s (gs.set i g)
  | .note op a b k, s, gs => Law.W k (s.noted ⟨i, -1, op, a, b⟩) gs
  | .step c op f k, s, gs => ∃ g, M.kin g = .want ∧ M.Inv s (gs.set i g) ∧ ∀ s' gs', M.Inv s' gs' → gs'[i]? = some g → Law.W (k (s'.vals.getD c 0)) ((s'.put c (f (s'.vals.getD c 0))).did i c op (s'.vals.getD c 0) (f (s'.vals.getD c 0))) gs'
  | .await c k, s, gs => if s.stuck then Law.W (k false) s gs else
      ∃ g, M.kin g = .wait c (s.chg.getD c 0) ∧ M.Inv s (gs.set i g) ∧ ∀ s' gs', M.Inv s' gs' → gs'[i]? = some g → if s'.stuck then Law.W (k false) s' gs' else s'.chg.getD c 0 ≠ s.chg.getD c 0 → Law.W (k true) (s'.noted ⟨i, c, 6, 0, 0⟩) gs'
  | .bad, _, _ => False
/-- .. from where it stands. -/
def Law.P : Park → G → Prop
  | .want c op f k, g => M.kin g = .want ∧ ∀ s' gs', M.Inv s' gs' → gs'[i]? = some g → M.W i (k (s'.vals.getD c 0)) ((s'.put c (f (s'.vals.getD c 0))).did i c op (s'.vals.getD c 0) (f (s'.vals.getD c 0))) gs'
  | .wait c seen k, g => M.kin g = .wait c seen ∧ ∀ s' gs', M.Inv s' gs' → gs'[i]? = some g → if s'.stuck then M.W i (k false) s' gs' else s'.chg.getD c 0 ≠ seen → M.W i (k true) (s'.noted ⟨i, c, 6, 0, 0⟩) gs'
  | .ended out, g => M.kin g = .ended out
  | .bad, _ => False
variable {M i}
theorem Law.W_set (x : G) : ∀ (p : Proc) (s : Sys) (gs : List G), M.W i p s (gs.set i x) → M.W i p s gs
  | .ret out, s, gs, h => by
    obtain ⟨g, h1, h2⟩ := h
    exact ⟨g, h1, by rwa [List.set_set] at h2⟩
  | .note op a b k, s, gs, h => Law.W_set x k _ gs h
  | .step c op f k, s, gs, h => by
    obtain ⟨g, h1, h2, h3⟩ := h
    exact ⟨g, h1, by rwa [List.set_set] at h2, h3⟩
  | .await c k, s, gs, h => by
    simp only [Law.W] at h ⊢
    split
    · rename_i hs
      rw [if_pos hs] at h
      exact Law.W_set x (k false) s gs h
    · rename_i hs
      rw [if_neg hs] at h
      obtain ⟨g, h1, h2, h3⟩ := h
      exact ⟨g, h1, by rwa [List.set_set] at h2, h3⟩
  | .bad, s, gs, h => h
theorem Law.adv_W : ∀ (p : Proc) (s : Sys) (gs : List G), M.W i p s gs → ∃ g, M.P i (adv i p s).2 g ∧ M.Inv (adv i p s).1 (gs.set i g)
  | .ret out, s, gs, ⟨g, h1, h2⟩ => ⟨g, h1, h2⟩
  | .note op a b k, s, gs, h => Law.adv_W k _ gs h
  | .step c op f k, s, gs, ⟨g, h1, h2, h3⟩ => ⟨g, ⟨h1, h3⟩, h2⟩
  | .await c k, s, gs, h => by
    simp only [Law.W] at h
    simp only [adv]
    split
    · rename_i hs
      rw [if_pos hs] at h
      exact Law.adv_W (k false) s gs h
    · rename_i hs
      rw [if_neg hs] at h
      obtain ⟨g, h1, h2, h3⟩ := h
      exact ⟨g, ⟨h1, h3⟩, h2⟩
  | .bad, s, gs, h => h.elim
theorem Law.advS_W {pk : Park} {s : Sys} {gs : List G} {g : G} (h : M.P i pk g) (hI : M.Inv s gs) (hg : gs[i]? = some g) (hr : pk.ready s = true) : ∃ g', M.P i (advS i pk.resume s).2 g' ∧ M.Inv (advS i pk.resume s).1 (gs.set i g') := by
  cases pk with
  | want c op f k => exact Law.adv_W _ _ gs (h.2 s gs hI hg)
  | wait c seen k =>
    have h1 := h.2 s gs hI hg
    simp only [Park.resume, advS]
    cases hs : s.stuck with
    | true =>
      rw [hs] at h1
      simp only [if_true] at h1 ⊢
      exact Law.adv_W _ _ gs h1
    | false =>
      rw [hs] at h1
      simp only [Bool.false_eq_true, if_false] at h1 ⊢
      refine Law.adv_W _ _ gs (h1 ?_)
      simpa [Park.ready, hs] using hr
  | ended out => cases hr
  | bad => cases hr
end

/-! ### how long it can take -/
/-- So many steps and notes at most. -/
def Proc.dep : Proc → Nat → Prop
  | .ret _, _ => True
  | .note _ _ _ k, n => 0 < n ∧ Proc.dep k (n - 1)
  | .step _ _ _ k, n => 0 < n ∧ ∀ v, Proc.dep (k v) (n - 1)
  | .await _ k, n => 0 < n ∧ ∀ b, Proc.dep (k b) (n - 1)
  | .bad, _ => True
def Park.dep : Park → Nat → Prop
  | .want _ _ _ k, n => 0 < n ∧ ∀ v, Proc.dep (k v) (n - 1)
  | .wait _ _ k, n => 0 < n ∧ ∀ b, Proc.dep (k b) (n - 1)
  | .ended _, _ => True
  | .bad, _ => True
theorem Proc.dep_mono : ∀ {p : Proc} {n m : Nat}, Proc.dep p n → n ≤ m → Proc.dep p m
  | .ret _, _, _, _, _ => trivial
  | .note _ _ _ k, n, m, h, hm => ⟨by have := h.1; omega, Proc.dep_mono h.2 (by omega)⟩
  | .step _ _ _ k, n, m, h, hm => ⟨by have := h.1; omega, fun v => Proc.dep_mono (h.2 v) (by omega)⟩
  | .await _ k, n, m, h, hm => ⟨by have := h.1; omega, fun v => Proc.dep_mono (h.2 v) (by omega)⟩
  | .bad, _, _, _, _ => trivial
theorem adv_dep (i : Int) : ∀ (p : Proc) (s : Sys) (n : Nat), Proc.dep p n → ∃ m, (adv i p s).2.dep m ∧ m + (adv i p s).1.trace.length ≤ n + s.trace.length
  | .ret out, s, n, h => ⟨0, trivial, by simp [adv]⟩
  | .note op a b k, s, n, h => by
    obtain ⟨m, h1, h2⟩ := adv_dep i k (s.noted ⟨i, -1, op, a, b⟩) (n - 1) h.2
    refine ⟨m, h1, ?_⟩
    have e : (s.noted ⟨i, -1, op, a, b⟩).trace.length = s.trace.length + 1 := by simp [Sys.noted]
    have := h.1
    simp only [adv]
    omega
  | .step c op f k, s, n, h => ⟨n, h, Nat.le_refl _⟩
  | .await c k, s, n, h => by
    simp only [adv]
    split
    · obtain ⟨m, h1, h2⟩ := adv_dep i (k false) s (n - 1) (h.2 false)
      exact ⟨m, h1, by omega⟩
    · exact ⟨n, h, Nat.le_refl _⟩
  | .bad, s, n, h => ⟨0, trivial, by simp [adv]⟩
theorem advS_dep (i : Int) (pk : Park) (s : Sys) (n : Nat) (h : pk.dep n) (hr : pk.ready s = true) : ∃ m, (advS i pk.resume s).2.dep m ∧ m + 1 ≤ n ∧ m + (advS i pk.resume s).1.trace.length ≤ n + s.trace.length := by
  cases pk with
  | want c op f k =>
    obtain ⟨h0, h1⟩ := h
    have hl : ((s.put c (f (s.vals.getD c 0))).did i c op (s.vals.getD c 0) (f (s.vals.getD c 0))).trace.length = s.trace.length + 1 := by simp [Sys.did, Sys.put]
    obtain ⟨m, h2, h3⟩ := adv_dep i (k (s.vals.getD c 0)) ((s.put c (f (s.vals.getD c 0))).did i c op (s.vals.getD c 0) (f (s.vals.getD c 0))) (n - 1) (h1 _)
    have h4 := adv_longer i (k (s.vals.getD c 0)) ((s.put c (f (s.vals.getD c 0))).did i c op (s.vals.getD c 0) (f (s.vals.getD c 0)))
    simp only [Park.resume, advS]
    exact ⟨m, h2, by omega, by omega⟩
  | wait c seen k =>
    obtain ⟨h0, h1⟩ := h
    simp only [Park.resume, advS]
    split
    · obtain ⟨m, h2, h3⟩ := adv_dep i (k false) s (n - 1) (h1 _)
      have h4 := adv_longer i (k false) s
      exact ⟨m, h2, by omega, by omega⟩
    · have hl : (s.noted ⟨i, c, 6, 0, 0⟩).trace.length = s.trace.length + 1 := by simp [Sys.noted]
      obtain ⟨m, h2, h3⟩ := adv_dep i (k true) (s.noted ⟨i, c, 6, 0, 0⟩) (n - 1) (h1 _)
      have h4 := adv_longer i (k true) (s.noted ⟨i, c, 6, 0, 0⟩)
      exact ⟨m, h2, by omega, by omega⟩
  | ended out => cases hr
  | bad => cases hr

theorem nat_sum_set : ∀ (ns : List Nat) (j n m : Nat), ns[j]? = some n → (ns.set j m).sum + n = ns.sum + m
  | [], j, n, m, h => by cases h
  | x :: ns, 0, n, m, h => by
    obtain rfl := Option.some.inj h
    simp only [List.set_cons_zero, List.sum_cons]
    omega
  | x :: ns, j + 1, n, m, h => by
    have := nat_sum_set ns j n m h
    simp only [List.set_cons_succ, List.sum_cons]
    omega
theorem mem_readyL {s : Sys} {ps : List Park} {j : Nat} : j ∈ readyL s ps ↔ j < ps.length ∧ (ps.getD j .bad).ready s = true := by
  unfold readyL
  rw [List.mem_filter, List.mem_range]
theorem pick_in {sched : List Int} {s : Sys} {l : List Nat} (h : l ≠ []) : pickOf sched s l ∈ l := by
  have hl : 0 < l.length := List.length_pos_iff.2 h
  have g0 : ∀ k, k < l.length → l.getD k 0 ∈ l := fun k hk => by
    rw [List.getD_eq_getElem?_getD, List.getElem?_eq_getElem hk]; exact List.getElem_mem _
  unfold pickOf
  split
  · refine g0 _ ?_
    have h1 := Int.tmod_lt_of_pos (sched.getD s.used 0) (show (0 : Int) < l.length by omega)
    have h2 := Int.lt_tmod_of_pos (sched.getD s.used 0) (show (0 : Int) < l.length by omega)
    unfold placeOf
    split <;> omega
  · unfold nextOf
    cases hf : l.find? _ with
    | none => exact g0 0 hl
    | some j => exact List.mem_of_find?_eq_some hf

section
variable {G : Type} {M : Law G}
/-- All stand as the invariant's data say. -/
structure Law.All (M : Law G) (s : Sys) (ps : List Park) (gs : List G) (ns : List Nat) : Prop where
  inv : M.Inv s gs
  plen : ps.length ≤ gs.length
  nlen : ns.length = ps.length
  fit : ∀ (j : Nat) pk g, ps[j]? = some pk → gs[j]? = some g → M.P j pk g
  dep : ∀ (j : Nat) pk n, ps[j]? = some pk → ns[j]? = some n → pk.dep n

theorem Law.runs (sched : List Int) : ∀ (K : Nat) (s : Sys) (ps : List Park) (gs : List G) (ns : List Nat), M.All s ps gs ns → ps.length = gs.length → ns.sum + (if s.stuck then 0 else 1) < K →
    ∃ s' ps' gs', run sched K s ps = some (s', ps') ∧ M.Inv s' gs' ∧ gs'.length = gs.length ∧ ps'.length = gs.length ∧ (∀ (j : Nat) pk g, ps'[j]? = some pk → gs'[j]? = some g → ∃ out, pk = .ended out ∧ M.kin g = .ended out) ∧ s'.trace.length ≤ s.trace.length + ns.sum + (if s.stuck then 0 else 1) := by
  intro K
  induction K with
  | zero => intro s ps gs ns _ _ h; omega
  | succ K ih =>
    intro s ps gs ns hA hlen hK
    simp only [run]
    by_cases h1 : readyL s ps = []
    · have hno : ∀ (j : Nat) pk, ps[j]? = some pk → pk.ready s = false := fun j pk hj => by
        cases hr : pk.ready s with
        | false => rfl
        | true =>
          have hm : j ∈ readyL s ps := mem_readyL.2 ⟨(List.getElem?_eq_some_iff.1 hj).1, by rw [List.getD_eq_getElem?_getD, hj]; exact hr⟩
          rw [h1] at hm
          cases hm
      rw [if_pos h1]
      cases h2 : ps.any Park.waits with
      | false =>
        refine ⟨s, ps, gs, by simp, hA.inv, rfl, hlen, fun j pk g hj hg => ?_, by omega⟩
        have hr := hno j pk hj
        have hw := List.any_eq_false.1 h2 pk (List.mem_of_getElem? hj)
        have hP := hA.fit j pk g hj hg
        cases pk with
        | want c op f k => cases hr
        | wait c seen k => simp [Park.waits] at hw
        | ended out => exact ⟨out, rfl, hP⟩
        | bad => exact hP.elim
      | true =>
        have hst : s.stuck = false := by
          obtain ⟨p, hp1, hp2⟩ := List.any_eq_true.1 h2
          obtain ⟨j, hj⟩ := List.mem_iff_getElem?.1 hp1
          have hr := hno j p hj
          cases p with
          | wait c seen k =>
            simp only [Park.ready, Bool.or_eq_false_iff] at hr
            exact hr.1
          | want c op f k => cases hp2
          | ended out => cases hp2
          | bad => cases hp2
        have hall : ∀ (j : Nat) pk g, ps[j]? = some pk → gs[j]? = some g → (∃ out, M.kin g = .ended out ∧ pk.waits = false) ∨ ∃ c, M.kin g = .wait c (s.chg.getD c 0) := fun j pk g hpk hj => by
          have hr := hno j pk hpk
          have hP := hA.fit j pk g hpk hj
          cases pk with
          | want c op f k => cases hr
          | wait c seen k =>
            simp only [Park.ready, Bool.or_eq_false_iff, decide_eq_false_iff_not, ne_eq, Classical.not_not] at hr
            exact .inr ⟨c, by rw [hr.2]; exact hP.1⟩
          | ended out => exact .inl ⟨out, hP, rfl⟩
          | bad => exact hP.elim
        have hj : M.Inv s.jam gs := M.jam hA.inv hst (fun g hg => by
          obtain ⟨j, hj⟩ := List.mem_iff_getElem?.1 hg
          have hlt := (List.getElem?_eq_some_iff.1 hj).1
          obtain ⟨pk, hpk⟩ : ∃ pk, ps[j]? = some pk := ⟨_, List.getElem?_eq_getElem (by omega)⟩
          rcases hall j pk g hpk hj with ⟨out, h, _⟩ | h
          · exact .inl ⟨out, h⟩
          · exact .inr h) (by
          obtain ⟨p, hp1, hp2⟩ := List.any_eq_true.1 h2
          obtain ⟨j, hj⟩ := List.mem_iff_getElem?.1 hp1
          have hlt := (List.getElem?_eq_some_iff.1 hj).1
          obtain ⟨g, hg⟩ : ∃ g, gs[j]? = some g := ⟨_, List.getElem?_eq_getElem (by omega)⟩
          rcases hall j p g hj hg with ⟨out, _, h⟩ | h
          · rw [h] at hp2; cases hp2
          · exact ⟨g, List.mem_of_getElem? hg, h⟩)
        have h3 : s.jam.stuck = true := rfl
        rw [hst] at hK
        simp only [Bool.false_eq_true, if_false] at hK
        obtain ⟨s', ps', gs', h4, h5, h6, h7, h8, h9⟩ := ih s.jam ps gs ns ⟨hj, hA.plen, hA.nlen, hA.fit, hA.dep⟩ hlen (by rw [h3]; simp only [if_true]; omega)
        refine ⟨s', ps', gs', by simpa using h4, h5, h6, h7, h8, ?_⟩
        rw [h3] at h9
        rw [hst]
        have e : s.jam.trace.length = s.trace.length + 1 := by simp [Sys.jam]
        simp only [if_true, Bool.false_eq_true, if_false] at h9 ⊢
        omega
    · rw [if_neg h1]
      obtain ⟨j, hj⟩ : ∃ j, j = pickOf sched s (readyL s ps) := ⟨_, rfl⟩
      have hm : j ∈ readyL s ps := by rw [hj]; exact pick_in h1
      rw [← hj]
      obtain ⟨hlt, hr⟩ := mem_readyL.1 hm
      have hpj : ps[j]? = some (ps.getD j .bad) := by rw [List.getD_eq_getElem?_getD, List.getElem?_eq_getElem hlt]; rfl
      generalize ps.getD j .bad = pk at hpj hr
      obtain ⟨g, hg⟩ : ∃ g, gs[j]? = some g := ⟨_, List.getElem?_eq_getElem (by omega)⟩
      obtain ⟨n, hn⟩ : ∃ n, ns[j]? = some n := ⟨_, List.getElem?_eq_getElem (by rw [hA.nlen]; exact hlt)⟩
      have hrp : pk.ready (s.picked sched j) = true := by cases pk <;> exact hr
      obtain ⟨g', h2, h3⟩ : ∃ g', M.P j (advS j pk.resume (s.picked sched j)).2 g' ∧ M.Inv (advS j pk.resume (s.picked sched j)).1 (gs.set j g') := Law.advS_W (hA.fit j pk g hpj hg) (M.pick (if s.used < sched.length then s.used + 1 else s.used) (j : Int) hA.inv : M.Inv (s.picked sched j) gs) hg hrp
      obtain ⟨m, h4, h5, h6⟩ := advS_dep j pk (s.picked sched j) n (hA.dep j pk n hpj hn) hrp
      have hnb : (advS j pk.resume (s.picked sched j)).2.isBad = false := by
        cases hb : (advS j pk.resume (s.picked sched j)).2 with
        | bad => rw [hb] at h2; exact h2.elim
        | want c op f k => rfl
        | wait c seen k => rfl
        | ended out => rfl
      have hstk : (s.picked sched j).stuck = s.stuck := rfl
      have htr : (s.picked sched j).trace = s.trace := rfl
      rw [htr] at h6
      rw [hnb]
      have hsum := nat_sum_set ns j n m hn
      have hstuck : ∀ (p : Proc) (t : Sys), (adv j p t).1.stuck = t.stuck := by
        intro p
        induction p with
        | ret out => intro t; rfl
        | note op a b k ih => intro t; exact ih _
        | step c op f k ih => intro t; rfl
        | await c k ih =>
          intro t
          simp only [adv]
          split
          · exact ih false t
          · rfl
        | bad => intro t; rfl
      have hstS : (advS j pk.resume (s.picked sched j)).1.stuck = s.stuck := by
        cases pk with
        | want c op f k => exact hstuck _ _
        | wait c seen k =>
          simp only [Park.resume, advS]
          split
          · exact hstuck _ _
          · exact hstuck _ _
        | ended out => exact hstuck _ _
        | bad => exact hstuck _ _
      obtain ⟨s', ps', gs', q1, q2, q3, q4, q5, q6⟩ := ih (advS j pk.resume (s.picked sched j)).1 (ps.set j (advS j pk.resume (s.picked sched j)).2) (gs.set j g') (ns.set j m)
        ⟨h3, by rw [List.length_set, List.length_set]; exact hA.plen, by rw [List.length_set, List.length_set]; exact hA.nlen, fun q pk' g2 hq hg2 => by
          rw [List.getElem?_set] at hq hg2
          split at hq
          · rename_i e
            subst e
            rw [if_pos rfl] at hg2
            split at hg2
            · cases hq; cases hg2
              exact h2
            · cases hg2
          · rename_i e
            rw [if_neg e] at hg2
            exact hA.fit q pk' g2 hq hg2, fun q pk' n2 hq hg2 => by
          rw [List.getElem?_set] at hq hg2
          split at hq
          · rename_i e
            subst e
            rw [if_pos rfl] at hg2
            split at hg2
            · cases hq; cases hg2
              exact h4
            · cases hg2
          · rename_i e
            rw [if_neg e] at hg2
            exact hA.dep q pk' n2 hq hg2⟩ (by rw [List.length_set, List.length_set]; exact hlen) (by rw [hstS]; omega)
      rw [List.length_set] at q3 q4
      refine ⟨s', ps', gs', by simpa using q1, q2, q3, q4, q5, ?_⟩
      rw [hstS] at q6
      omega

/-- Threads begin, one behind the other: then all turns. -/
theorem Law.spawns (sched : List Int) (K d : Nat) {g0 : G} : ∀ (procs : List Proc) (s : Sys) (ps : List Park) (gs : List G) (ns : List Nat), M.All s ps gs ns → s.stuck = false → ps.length + procs.length = gs.length →
    (∀ (j : Nat), ps.length ≤ j → j < gs.length → gs[j]? = some g0) → (∀ (j : Nat) p, procs[j]? = some p → p.dep d ∧ ∀ s' gs', M.Inv s' gs' → s'.stuck = false → gs'[ps.length + j]? = some g0 → M.W (ps.length + j) p s' gs') → ns.sum + procs.length * d + 1 < K →
    ∃ fin gs', spawn sched K procs s ps = some fin ∧ M.Inv fin.1 gs' ∧ gs'.length = gs.length ∧ fin.2.length = gs.length ∧ (∀ (j : Nat) pk g, fin.2[j]? = some pk → gs'[j]? = some g → ∃ out, pk = .ended out ∧ M.kin g = .ended out) ∧ fin.1.trace.length ≤ s.trace.length + ns.sum + procs.length * d + 1
  | [], s, ps, gs, ns, hA, hst, hlen, h0, hp, hK => by
    simp only [List.length_nil, Nat.zero_mul, Nat.add_zero] at hlen hK
    obtain ⟨s', ps', gs', q1, q2, q3, q4, q5, q6⟩ := Law.runs sched K s ps gs ns hA hlen (by rw [hst]; simp only [Bool.false_eq_true, if_false]; omega)
    refine ⟨(s', ps'), gs', q1, q2, q3, q4, q5, ?_⟩
    rw [hst] at q6
    simp only [Bool.false_eq_true, if_false] at q6
    simp only [List.length_nil, Nat.zero_mul, Nat.add_zero]
    exact q6
  | p :: procs, s, ps, gs, ns, hA, hst, hlen, h0, hp, hK => by
    simp only [List.length_cons] at hlen hK
    have hmul : (procs.length + 1) * d = procs.length * d + d := Nat.succ_mul _ _
    rw [hmul] at hK
    obtain ⟨hd, hw⟩ := hp 0 p rfl
    have hpl : ps.length < gs.length := by omega
    obtain ⟨g, h1, h2⟩ := Law.adv_W p s gs (hw s gs hA.inv hst (h0 _ (Nat.le_refl _) hpl))
    obtain ⟨m, h3, h4⟩ := adv_dep ps.length p s d hd
    have hnb : (adv ps.length p s).2.isBad = false := by
      cases hb : (adv ps.length p s).2 with
      | bad => rw [Nat.add_zero] at h1; rw [hb] at h1; exact h1.elim
      | want c op f k => rfl
      | wait c seen k => rfl
      | ended out => rfl
    have hstuck : ∀ (p : Proc) (t : Sys), (adv ps.length p t).1.stuck = t.stuck := by
      intro p
      induction p with
      | ret out => intro t; rfl
      | note op a b k ih => intro t; exact ih _
      | step c op f k ih => intro t; rfl
      | await c k ih =>
        intro t
        simp only [adv]
        split
        · exact ih false t
        · rfl
      | bad => intro t; rfl
    have hlong := adv_longer ps.length p s
    obtain ⟨fin, gs', q1, q2, q3, q4, q5, q6⟩ := Law.spawns sched K d procs (adv ps.length p s).1 (ps ++ [(adv ps.length p s).2]) (gs.set ps.length g) (ns ++ [m])
      ⟨h2, by rw [List.length_append, List.length_set]; simp; omega, by rw [List.length_append, List.length_append, hA.nlen]; rfl, fun q pk' g2 hq hg2 => by
        rw [List.getElem?_set] at hg2
        by_cases e : ps.length = q
        · subst e
          rw [if_pos rfl, if_pos hpl] at hg2
          cases hg2
          rw [List.getElem?_append_right (Nat.le_refl _), Nat.sub_self] at hq
          cases hq
          exact h1
        · rw [if_neg e] at hg2
          rw [List.getElem?_append] at hq
          split at hq
          · exact hA.fit q pk' g2 hq hg2
          · have := (List.getElem?_eq_some_iff.1 hq).1
            simp at this
            omega, fun q pk' n2 hq hg2 => by
        rw [List.getElem?_append] at hq hg2
        rw [hA.nlen] at hg2
        split at hq
        · rename_i e
          rw [if_pos e] at hg2
          exact hA.dep q pk' n2 hq hg2
        · rename_i e
          rw [if_neg e] at hg2
          have := (List.getElem?_eq_some_iff.1 hq).1
          have e2 : q - ps.length = 0 := by simp at this; omega
          rw [e2] at hq hg2
          cases hq; cases hg2
          exact h3⟩
      (by rw [hstuck]; exact hst) (by rw [List.length_append, List.length_set]; simp; omega)
      (fun j h5 h6 => by
        rw [List.length_append] at h5
        simp at h5
        rw [List.length_set] at h6
        rw [List.getElem?_set, if_neg (by omega)]
        exact h0 j (by omega) h6)
      (fun j p' hj => by
        obtain ⟨h5, h6⟩ := hp (j + 1) p' hj
        refine ⟨h5, fun s' gs' h7 h8 h9 => ?_⟩
        have e : (ps ++ [(adv ps.length p s).2]).length + j = ps.length + (j + 1) := by simp; omega
        rw [e] at h9 ⊢
        exact h6 s' gs' h7 h8 h9)
      (by rw [List.sum_append]; simp only [List.sum_cons, List.sum_nil]; omega)
    rw [List.length_set] at q3 q4
    refine ⟨fin, gs', ?_, q2, q3, q4, q5, ?_⟩
    · simp only [spawn]
      rw [hnb]
      simpa using q1
    · rw [List.sum_append] at q6
      simp only [List.sum_cons, List.sum_nil, List.length_cons] at q6 ⊢
      rw [hmul]
      omega
end

/-- A script is not too deep, if its calls are not. -/
theorem oneP_dep {doP : Cal → (Ans → Proc) → Proc} {e : Nat} : ∀ (l : List Cal) (j : Nat) (acc : List Ans), (∀ c ∈ l, ∀ k n, (∀ a, Proc.dep (k a) n) → Proc.dep (doP c k) (n + e)) → Proc.dep (oneP doP j l acc) (l.length * (e + 2))
  | [], j, acc, h => trivial
  | c :: l, j, acc, h => by
    have hmul : (l.length + 1) * (e + 2) = l.length * (e + 2) + e + 2 := by rw [Nat.succ_mul]; omega
    simp only [oneP, List.length_cons, hmul]
    refine ⟨by omega, ?_⟩
    refine Proc.dep_mono (n := (l.length * (e + 2) + 1) + e) (h c List.mem_cons_self _ (l.length * (e + 2) + 1) fun a => ⟨by omega, ?_⟩) (by omega)
    split
    · trivial
    · exact Proc.dep_mono (oneP_dep l (j + 1) _ fun c hc => h c (List.mem_cons_of_mem _ hc)) (by omega)
/-- Scripts, from their begins to their ends. -/
theorem Law.plays {G : Type} (M : Law G) {g0 : G} (sched : List Int) {K e : Nat} {doP : Cal → (Ans → Proc) → Proc} {scripts : List (List Cal)} {s0 : Sys} (hI : M.Inv s0 (List.replicate scripts.length g0)) (hst : s0.stuck = false) (htr : s0.trace = [])
    (hdep : ∀ c k n, (∀ a, Proc.dep (k a) n) → Proc.dep (doP c k) (n + e)) (h8 : scripts.length ≤ 8) (h64 : ∀ l ∈ scripts, l.length ≤ 64)
    (hW : ∀ (j : Nat) l s gs, scripts[j]? = some l → M.Inv s gs → s.stuck = false → gs[j]? = some g0 → M.W j (oneP doP 0 l []) s gs) (hK : 8 * (64 * (e + 2)) + 1 < K) :
    ∃ fin gs', spawn sched K (scripts.map fun l => oneP doP 0 l []) s0 [] = some fin ∧ M.Inv fin.1 gs' ∧ gs'.length = scripts.length ∧ fin.2.length = scripts.length ∧
      (∀ (j : Nat) pk g, fin.2[j]? = some pk → gs'[j]? = some g → ∃ out, pk = .ended out ∧ M.kin g = .ended out) ∧ fin.1.trace.length ≤ 8 * (64 * (e + 2)) + 1 := by
  have hpl : scripts.length * (64 * (e + 2)) ≤ 8 * (64 * (e + 2)) := Nat.mul_le_mul_right _ h8
  obtain ⟨fin, gs', q1, q2, q3, q4, q5, q6⟩ := Law.spawns (M := M) sched K (64 * (e + 2)) (g0 := g0) (scripts.map fun l => oneP doP 0 l []) s0 [] (List.replicate scripts.length g0) []
    ⟨hI, Nat.zero_le _, rfl, fun j pk g h => by simp at h, fun j pk m h => by simp at h⟩ hst (by simp) (fun j _ hj => by
      rw [List.length_replicate] at hj
      rw [List.getElem?_replicate, if_pos hj]) (fun j p hp => by
      rw [List.getElem?_map] at hp
      obtain ⟨l, hl, rfl⟩ := Option.map_eq_some_iff.1 hp
      have hl64 := h64 l (List.mem_of_getElem? hl)
      refine ⟨Proc.dep_mono (oneP_dep (e := e) l 0 [] fun c _ k m h => hdep c k m h) (Nat.mul_le_mul_right _ hl64), fun s' gs' h hst hg => ?_⟩
      have e : ([] : List Park).length + j = j := by simp
      rw [e] at hg ⊢
      exact hW j l s' gs' hl h hst hg) (by simp; omega)
  rw [List.length_replicate] at q3 q4
  refine ⟨fin, gs', q1, q2, q3, q4, q5, ?_⟩
  rw [htr] at q6
  simp only [List.length_nil, List.length_map, List.sum_nil] at q6
  omega
end Go.Proofs.Ytoabkcalphpkhaa

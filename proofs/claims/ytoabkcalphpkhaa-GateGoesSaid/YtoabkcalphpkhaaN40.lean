/- Merged: Bld. -/
import Derived.Test.YtoabkcalphpkhaaN27
/- The scripts that GateGoes builds: short, and balanced. -/
namespace Go.Proofs.Ytoabkcalphpkhaa
open Go Go.Conc
set_option linter.unusedVariables false
set_option linter.unusedSimpArgs false

def cE : Cal := ⟨1, 0, 0, 0⟩
def cL : Cal := ⟨2, 0, 0, 0⟩
def cS : Cal := ⟨3, 0, 0, 0⟩
def blkG (n : Int) : List Cal := if n > 3 then [cS] else List.replicate n.toNat cE ++ List.replicate n.toNat cL
def bldG : List Int → List Cal → List Cal
  | [], acc => acc
  | x :: xs, acc => if acc.length < 50 then bldG xs (acc ++ blkG (x % 8)) else acc
theorem blkG_len (n : Int) : (blkG n).length ≤ 6 := by
  unfold blkG
  split
  · simp
  · simp; omega
theorem bldG_len : ∀ (xs : List Int) (acc : List Cal), acc.length ≤ 55 → (bldG xs acc).length ≤ 55
  | [], acc, h => h
  | x :: xs, acc, h => by
    unfold bldG
    split
    · have := blkG_len (x % 8)
      exact bldG_len xs _ (by rw [List.length_append]; omega)
    · exact h
theorem debt_app : ∀ (l m : List Cal), debtC (l ++ m) = debtC l + debtC m
  | [], m => by simp [debtC]
  | c :: l, m => by simp only [List.cons_append, debtC, debt_app l m]; omega
theorem debt_cE : ∀ (l : List Cal), (∀ c ∈ l, c = cE) → debtC l = l.length
  | [], _ => rfl
  | c :: l, h => by
    have hc := h c (List.mem_cons_self ..)
    have := debt_cE l fun c hc => h c (List.mem_cons_of_mem _ hc)
    subst hc
    simp [debtC, cE, this]
    omega
theorem debt_cL : ∀ (l : List Cal), (∀ c ∈ l, c = cL) → debtC l = -(l.length : Int)
  | [], _ => rfl
  | c :: l, h => by
    have hc := h c (List.mem_cons_self ..)
    have := debt_cL l fun c hc => h c (List.mem_cons_of_mem _ hc)
    subst hc
    simp [debtC, cL, this]
    omega
def OkG (l : List Cal) : Prop := ∀ p r, l = p ++ r → 0 ≤ debtC p ∧ (r = [] → debtC p = 0) ∧ (∀ c r', r = c :: r' → c.op = 3 → debtC p = 0)
theorem OkG.nil : OkG [] := fun p r h => by
  obtain ⟨rfl, rfl⟩ := List.append_eq_nil_iff.1 h.symm
  exact ⟨Int.le_refl _, fun _ => rfl, fun c r' e => by cases e⟩
theorem OkG.app {a b : List Cal} (ha : OkG a) (hb : OkG b) : OkG (a ++ b) := fun p r h => by
  have ha0 : debtC a = 0 := (ha a [] (by simp)).2.1 rfl
  rcases List.append_eq_append_iff.1 h with ⟨s, h1, h2⟩ | ⟨s, h1, h2⟩
  · subst h1
    rw [debt_app, ha0]
    obtain ⟨q1, q2, q3⟩ := hb s r h2
    exact ⟨by omega, fun e => by rw [q2 e]; rfl, fun c r' e ho => by rw [q3 c r' e ho]; rfl⟩
  · obtain ⟨q1, q2, q3⟩ := ha p s h1
    cases s with
    | nil =>
      have := q2 rfl
      exact ⟨q1, fun _ => this, fun _ _ _ _ => this⟩
    | cons c s =>
      subst h2
      refine ⟨q1, fun e => (by cases e), fun c' r' e ho => ?_⟩
      injection e with e1 e2
      subst e1
      exact q3 _ _ rfl ho
theorem OkG.blk (n : Int) : OkG (blkG n) := by
  unfold blkG
  split
  · intro p r h
    rcases p with _ | ⟨c, p⟩
    · exact ⟨Int.le_refl _, fun e => rfl, fun c r' e ho => rfl⟩
    · injection h with h1 h2
      obtain ⟨rfl, rfl⟩ := List.append_eq_nil_iff.1 h2.symm
      subst h1
      exact ⟨by decide, fun e => by decide, fun c r' e ho => by cases e⟩
  · generalize n.toNat = m
    intro p r h
    rcases List.append_eq_append_iff.1 h with ⟨s, h1, h2⟩ | ⟨s, h1, h2⟩
    · have hl : s.length + r.length = m := by have := congrArg List.length h2; simpa using this.symm
      have hs : debtC s = -(s.length : Int) := debt_cL s fun c hc => List.eq_of_mem_replicate (n := m) (by rw [h2]; exact List.mem_append_left _ hc)
      have hm : debtC (List.replicate m cE) = m := by rw [debt_cE _ fun c hc => List.eq_of_mem_replicate hc]; simp
      subst h1
      rw [debt_app, hm, hs]
      refine ⟨by omega, fun e => by subst e; simp at hl; omega, fun c r' e ho => ?_⟩
      have hc : c = cL := List.eq_of_mem_replicate (n := m) (by rw [h2, e]; simp)
      rw [hc] at ho
      exact absurd ho (by decide)
    · have hl : p.length + s.length = m := by have := congrArg List.length h1; simpa using this.symm
      have hp : debtC p = p.length := debt_cE p fun c hc => List.eq_of_mem_replicate (n := m) (by rw [h1]; exact List.mem_append_left _ hc)
      rw [hp]
      refine ⟨by omega, fun e => ?_, fun c r' e ho => ?_⟩
      · subst h2
        have := (List.append_eq_nil_iff.1 e).2
        have hm : m = 0 := by have := congrArg List.length this; simpa using this
        have : p.length = 0 := by omega
        rw [this]; rfl
      · have hc : c = cE ∨ c = cL := by
          have hm : c ∈ s ++ List.replicate m cL := by rw [← h2, e]; simp
          rcases List.mem_append.1 hm with hm | hm
          · exact .inl (List.eq_of_mem_replicate (n := m) (by rw [h1]; exact List.mem_append_right _ hm))
          · exact .inr (List.eq_of_mem_replicate hm)
        rcases hc with rfl | rfl
        · exact absurd ho (by decide)
        · exact absurd ho (by decide)
theorem bldG_ok : ∀ (xs : List Int) (acc : List Cal), OkG acc → OkG (bldG xs acc)
  | [], acc, h => h
  | x :: xs, acc, h => by
    unfold bldG
    split
    · exact bldG_ok xs _ (h.app (.blk _))
    · exact h
/-- All of it. -/
def scriptsG (raws : List (List Int)) : List (List Cal) := (raws.take 8).map fun xs => bldG xs []
theorem scriptsG_len (raws : List (List Int)) : (scriptsG raws).length ≤ 8 := by simp [scriptsG]; omega
theorem scriptsG_64 (raws : List (List Int)) : ∀ l ∈ scriptsG raws, l.length ≤ 64 := fun l hl => by
  obtain ⟨xs, _, rfl⟩ := List.mem_map.1 hl
  have := bldG_len xs [] (by simp)
  omega
theorem scriptsG_bal (raws : List (List Int)) : Bal (scriptsG raws) := fun l hl => by
  obtain ⟨xs, _, rfl⟩ := List.mem_map.1 hl
  exact bldG_ok xs [] .nil
theorem bldG_in : ∀ (xs : List Int) (acc : List Cal), (∀ c ∈ acc, CalIn c) → ∀ c ∈ bldG xs acc, CalIn c
  | [], acc, h => h
  | x :: xs, acc, h => by
    unfold bldG
    split
    · refine bldG_in xs _ fun c hc => ?_
      rcases List.mem_append.1 hc with hc | hc
      · exact h c hc
      · have : c = cE ∨ c = cL ∨ c = cS := by
          unfold blkG at hc
          split at hc
          · simp at hc; exact .inr (.inr hc)
          · rcases List.mem_append.1 hc with hc | hc
            · exact .inl (List.eq_of_mem_replicate hc)
            · exact .inr (.inl (List.eq_of_mem_replicate hc))
        rcases this with rfl | rfl | rfl <;> simp [CalIn, In64, cE, cL, cS]
    · exact h
theorem scriptsG_in (raws : List (List Int)) : ∀ l ∈ scriptsG raws, ∀ c ∈ l, CalIn c := fun l hl => by
  obtain ⟨xs, _, rfl⟩ := List.mem_map.1 hl
  exact bldG_in xs [] fun c hc => by cases hc
end Go.Proofs.Ytoabkcalphpkhaa

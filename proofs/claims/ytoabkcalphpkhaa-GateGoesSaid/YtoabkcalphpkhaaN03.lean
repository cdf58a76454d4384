/- Merged: Tame. -/
import Derived.Conc.Beside
/- What an operation may ask of the world: a law of the model's plain operations ('Tame'): they load, store, allot, look, draw, and nothing else: no system call, no mark but 'noRoom' and 'extern', no freezing. No program in sight. -/
namespace Go.Proofs.Ytoabkcalphpkhaa
open Go Go.Conc
set_option linter.unusedVariables false
set_option linter.unusedSimpArgs false

/-- Where it stops without an answer: by a panic of Go's, or by a refusal of the model's. -/
def OkHalt : Halt → Prop
  | .panic _ | .unsupported _ | .stuck _ => True
  | _ => False
/-- A tree of questions that asks plain things alone; of each answer L holds. 'fz': it does not ask whether a cell is frozen. -/
inductive Tame (P : Program) (fz : Bool) {α : Type} (L : α → Prop) : Sem α → Prop
  | pure {a : α} (h : L a) : Tame P fz L (.pure a)
  | load {m : Mode} {a : Addr} {k : Value → Sem α} (h : ∀ v, Tame P fz L (k v)) : Tame P fz L (.load m a k)
  | store {m : Mode} {a : Addr} {v : Value} {k : Sem α} (h : Tame P fz L k) : Tame P fz L (.store m a v k)
  | new {o : Obj} {k : Nat → Sem α} (h : ∀ r, Tame P fz L (k r)) : Tame P fz L (.new o k)
  | shape {r : Nat} {k : Option (TypeId × Nat) → Sem α} (h : ∀ s, Tame P fz L (k s)) : Tame P fz L (.shape r k)
  | getObj {r : Nat} {k : Obj → Sem α} (h : ∀ o, Tame P fz L (k o)) : Tame P fz L (.getObj r k)
  | frozen {a : Addr} {k : Bool → Sem α} (hf : fz = false) (h : ∀ b, Tame P fz L (k b)) : Tame P fz L (.frozen a k)
  | choose {q : Question} {k : Nat → Sem α} (h : ∀ n, Tame P fz L (k n)) : Tame P fz L (.choose q k)
  | program {k : Program → Sem α} (h : Tame P fz L (k P)) : Tame P fz L (.program k)
  | room {k : Sem α} (h : Tame P fz L k) : Tame P fz L (.mark .noRoom k)
  | extern {f : FuncId} {k : Sem α} (h : Tame P fz L k) : Tame P fz L (.mark (.extern f) k)
  | halt {h : Halt} (hh : OkHalt h) : Tame P fz L (.halt h)
  /-- It comes to no answer, whatever it asks. -/
  | dead {s : Sem α} (h : ∀ w, ∃ hh w', s.run P w = .halt hh w' ∧ OkHalt hh) : Tame P fz L s

namespace Tame
variable {P : Program} {fz : Bool} {α β : Type} {L : α → Prop} {M : β → Prop}

theorem run_bind_ok (s : Sem α) (f : α → Sem β) : ∀ (w : World) (b : β) (w' : World), (s.bind f).run P w = .ok b w' → ∃ a w₁, s.run P w = .ok a w₁ := by
  induction s with
  | pure a => intro w b w' h; exact ⟨a, w, rfl⟩
  | load m a k ih =>
    intro w b w' h
    simp only [Sem.bind, Sem.run] at h ⊢
    cases hc : w.cell? a with
    | some v => rw [hc] at h; exact ih v w b w' h
    | none =>
      rw [hc] at h
      simp only at h ⊢
      cases hfar : w.farLoad P a (m == .atomic) with
      | ok x => rw [hfar] at h; exact ih _ w b w' h
      | error x => rw [hfar] at h; cases h
  | store m a v k ih =>
    intro w b w' h
    cases v <;> simp only [Sem.bind, Sem.run] at h ⊢ <;> first
      | cases h
      | (cases hc : w.cell? a with
         | some v =>
           rw [hc] at h
           simp only at h ⊢
           split at h
           · cases h
           · rename_i hz; rw [if_neg hz]; exact ih _ b w' h
         | none =>
           rw [hc] at h
           simp only at h ⊢
           split at h
           · exact ih _ b w' h
           · cases h)
  | new o k ih => intro w b w' h; simp only [Sem.bind, Sem.run] at h ⊢; exact ih _ _ b w' h
  | shape r k ih => intro w b w' h; simp only [Sem.bind, Sem.run] at h ⊢; exact ih _ _ b w' h
  | freeze a n k ih => intro w b w' h; simp only [Sem.bind, Sem.run] at h ⊢; exact ih _ b w' h
  | frozen a k ih => intro w b w' h; simp only [Sem.bind, Sem.run] at h ⊢; exact ih _ _ b w' h
  | getObj r k ih =>
    intro w b w' h
    simp only [Sem.bind, Sem.run] at h ⊢
    cases hc : w.heap[r]? with
    | none => rw [hc] at h; cases h
    | some o => rw [hc] at h; cases o <;> simp only at h ⊢ <;> first | cases h | exact ih _ w b w' h
  | setObj r o k ih =>
    intro w b w' h
    simp only [Sem.bind, Sem.run] at h ⊢
    cases hc : w.heap[r]? with
    | none => rw [hc] at h; cases h
    | some o => rw [hc] at h; cases o <;> simp only at h ⊢ <;> first | cases h | exact ih _ b w' h
  | choose q k ih =>
    intro w b w' h
    simp only [Sem.bind, Sem.run] at h ⊢
    split at h
    · rename_i hq; rw [if_pos hq]; exact ih _ w b w' h
    · rename_i hq; rw [if_neg hq]; exact ih _ _ b w' h
  | sys c k ih => intro w b w' h; simp only [Sem.bind, Sem.run] at h ⊢; exact ih _ _ b w' h
  | program k ih => intro w b w' h; simp only [Sem.bind, Sem.run] at h ⊢; exact ih _ w b w' h
  | mark m k ih => intro w b w' h; simp only [Sem.bind, Sem.run] at h ⊢; exact ih w b w' h
  | halt hh => intro w b w' h; simp only [Sem.bind, Sem.run] at h; cases h

theorem bind {s : Sem α} {f : α → Sem β} (h : Tame P fz L s) (hf : ∀ a, L a → Tame P fz M (f a)) : Tame P fz M (s.bind f) := by
  induction h with
  | pure h => exact hf _ h
  | load _ ih => exact .load ih
  | store _ ih =>
    exact .store ih
  | new _ ih => exact .new ih
  | shape _ ih => exact .shape ih
  | getObj _ ih => exact .getObj ih
  | frozen hz _ ih => exact .frozen hz ih
  | choose _ ih => exact .choose ih
  | program _ ih => exact .program ih
  | room _ ih => exact .room ih
  | extern _ ih => exact .extern ih
  | halt hh => exact .halt hh
  | dead h =>
    refine .dead fun w => ?_
    obtain ⟨hh, w', e, ok⟩ := h w
    exact ⟨hh, w', by rw [Sem.run_bind', e]; rfl, ok⟩
theorem mono {L' : α → Prop} {s : Sem α} (h : Tame P fz L s) (hL : ∀ a, L a → L' a) : Tame P fz L' s := by
  induction h with
  | pure h => exact .pure (hL _ h)
  | load _ ih => exact .load ih
  | store _ ih => exact .store ih
  | new _ ih => exact .new ih
  | shape _ ih => exact .shape ih
  | getObj _ ih => exact .getObj ih
  | frozen hz _ ih => exact .frozen hz ih
  | choose _ ih => exact .choose ih
  | program _ ih => exact .program ih
  | room _ ih => exact .room ih
  | extern _ ih => exact .extern ih
  | halt hh => exact .halt hh
  | dead h => exact .dead h
/-- It asks whether cells are frozen: so may it where that is let. -/
theorem thaw {s : Sem α} (h : Tame P true L s) : Tame P fz L s := by
  induction h with
  | pure h => exact .pure h
  | load _ ih => exact .load ih
  | store _ ih => exact .store ih
  | new _ ih => exact .new ih
  | shape _ ih => exact .shape ih
  | getObj _ ih => exact .getObj ih
  | frozen hz _ ih => cases hz
  | choose _ ih => exact .choose ih
  | program _ ih => exact .program ih
  | room _ ih => exact .room ih
  | extern _ ih => exact .extern ih
  | halt hh => exact .halt hh
  | dead h => exact .dead h

abbrev Any {α : Type} : α → Prop := fun _ => True
theorem any {s : Sem α} (h : Tame P fz L s) : Tame P fz Any s := h.mono fun _ _ => trivial
theorem then_any {s : Sem α} {f : α → Sem β} (h : Tame P fz Any s) (hf : ∀ a, Tame P fz M (f a)) : Tame P fz M (s.bind f) := h.bind fun a _ => hf a
theorem ite {c : Prop} [Decidable c] {s t : Sem α} (hs : c → Tame P fz L s) (ht : ¬ c → Tame P fz L t) : Tame P fz L (if c then s else t) := by
  by_cases h : c
  · rw [if_pos h]; exact hs h
  · rw [if_neg h]; exact ht h
end Tame

/-- The steps of a proof that something is tame. -/
theorem tame_stuck {P : Program} {fz : Bool} {α : Type} {L : α → Prop} (s : String) : Tame P fz L (stuck s : Sem α) := .halt trivial
theorem tame_unsupported {P : Program} {fz : Bool} {α : Type} {L : α → Prop} (u : Unsupported) : Tame P fz L (unsupported u : Sem α) := .halt trivial
theorem tame_goPanic {P : Program} {fz : Bool} {α : Type} {L : α → Prop} (v : Value) : Tame P fz L (goPanic v : Sem α) := .halt trivial
theorem tame_pure {P : Program} {fz : Bool} {α : Type} {L : α → Prop} {a : α} (h : L a) : Tame P fz L (Pure.pure a : Sem α) := .pure h
theorem tame_bind {P : Program} {fz : Bool} {α β : Type} {M : β → Prop} {s : Sem α} {f : α → Sem β} (h : Tame P fz Tame.Any s) (hf : ∀ a, Tame P fz M (f a)) : Tame P fz M (s >>= f) := Tame.then_any h hf
theorem tame_map {P : Program} {fz : Bool} {α β : Type} {s : Sem α} {f : α → β} (h : Tame P fz Tame.Any s) : Tame P fz Tame.Any (f <$> s) := Tame.bind h fun a _ => .pure trivial
/-- How a tame thing stops. -/
theorem Tame.halts {P : Program} {fz : Bool} {α : Type} {L : α → Prop} {s : Sem α} (h : Tame P fz L s) : ∀ {w : World} {hh : Halt} {w' : World}, s.run P w = .halt hh w' → OkHalt hh := by
  have nocell : ∀ (w : World) (a : Addr) (x : String), OkHalt (w.noCell a x) := by
    intro w a x
    unfold World.noCell
    split <;> trivial
  induction h with
  | pure h => intro w hh w' e; cases e
  | @load m a k _ ih =>
    intro w hh w' e
    simp only [Sem.run] at e
    split at e
    · exact ih _ e
    · split at e
      · exact ih _ e
      · rename_i x hx
        cases e
        unfold World.farLoad at hx
        split at hx
        · split at hx
          · cases hx
          · cases hx; trivial
        · cases hx; exact nocell _ _ _
  | @store m a v k _ ih =>
    intro w hh w' e
    cases v <;> simp only [Sem.run] at e
    all_goals first
      | (cases e; trivial)
      | (split at e
         · split at e
           · cases e; trivial
           · exact ih e
         · split at e
           · exact ih e
           · rename_i x hx
             cases e
             unfold World.farStore at hx
             split at hx
             · split at hx
               · cases hx
               · cases hx; trivial
             · cases hx; exact nocell _ _ _)
  | new _ ih => intro w hh w' e; simp only [Sem.run] at e; exact ih _ e
  | shape _ ih => intro w hh w' e; simp only [Sem.run] at e; exact ih _ e
  | getObj _ ih =>
    intro w hh w' e
    simp only [Sem.run] at e
    split at e
    · cases e; trivial
    · exact ih _ e
    · cases e; trivial
  | frozen hz _ ih => intro w hh w' e; simp only [Sem.run] at e; exact ih _ e
  | choose _ ih => intro w hh w' e; simp only [Sem.run] at e; split at e <;> exact ih _ e
  | program _ ih => intro w hh w' e; simp only [Sem.run] at e; exact ih e
  | room _ ih => intro w hh w' e; simp only [Sem.run] at e; exact ih e
  | extern _ ih => intro w hh w' e; simp only [Sem.run] at e; exact ih e
  | halt h => intro w hh w' e; simp only [Sem.run] at e; cases e; exact h
  | dead h =>
    intro w hh w' e
    obtain ⟨h', w₁, e', ok⟩ := h w
    rw [e'] at e
    cases e
    exact ok
end Go.Proofs.Ytoabkcalphpkhaa

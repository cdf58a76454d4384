/- Merged: Rel, Sim, Core, Step. -/
import Derived.Test.YtoabkcalphpkhaaN05
import Derived.Conc.Listed
/- A tame operation does the same, and lists plain accesses alone, in a world that parts from another one in its tape, and in which some guarded cells are not frozen that are frozen there. No program in sight. -/
namespace Go.Proofs.Ytoabkcalphpkhaa
open Go Go.Conc
set_option linter.unusedVariables false
set_option linter.unusedSimpArgs false
set_option linter.unusedSectionVars false

/-- The world upon another tape. -/
def _root_.Go.World.on (w : World) (τ : Nat → Question → Nat) (d : Nat) : World := { w with tape := τ, drawn := d }
@[simp] theorem on_heap (w : World) (τ : Nat → Question → Nat) (d : Nat) : (w.on τ d).heap = w.heap := rfl
@[simp] theorem on_on (w : World) (τ σ : Nat → Question → Nat) (d e : Nat) : (w.on τ d).on σ e = w.on σ e := rfl
theorem on_self (w : World) : w.on w.tape w.drawn = w := rfl
theorem on_at (w : World) (d : Nat) : w.at d = w.on w.tape d := rfl

/-- Which cells of which blocks are guarded: frozen in the one world, not in the other. -/
abbrev Guard := Nat → Option (Nat × Nat)
def Guard.has (G : Guard) (a : Addr) : Prop := ∃ r, G a.block = some r ∧ r.1 ≤ a.off ∧ a.off < r.2

/-- w: the real world; u: the one in which the guarded cells are frozen. -/
structure Like (G : Guard) (w u : World) : Prop where
  os : u.os = w.os
  out : u.output = w.output
  size : u.heap.size = w.heap.size
  blk : ∀ b, G b = none → u.heap[b]? = w.heap[b]?
  grd : ∀ b r, G b = some r → ∃ c e, w.heap[b]? = some (.cells c e (0, 0)) ∧ u.heap[b]? = some (.cells c e r)

theorem Like.refl (w : World) : Like (fun _ => none) w w := ⟨rfl, rfl, rfl, fun _ _ => rfl, fun _ _ h => by cases h⟩
theorem Like.on {G : Guard} {w u : World} (h : Like G w u) (τ σ : Nat → Question → Nat) (d e : Nat) : Like G (w.on τ d) (u.on σ e) := ⟨h.os, h.out, h.size, h.blk, h.grd⟩

section
variable {G : Guard} {w u : World}
theorem Like.cell (h : Like G w u) (a : Addr) : w.cell? a = u.cell? a := by
  unfold World.cell?
  cases hb : G a.block with
  | none => rw [h.blk _ hb]
  | some r =>
    obtain ⟨c, e, h1, h2⟩ := h.grd _ _ hb
    rw [h1, h2]
theorem Like.shape (h : Like G w u) (r : Nat) : w.shape? r = u.shape? r := by
  unfold World.shape?
  cases hb : G r with
  | none => rw [h.blk _ hb]
  | some q =>
    obtain ⟨c, e, h1, h2⟩ := h.grd _ _ hb
    rw [h1, h2]
theorem Like.thaw (h : Like G w u) (a : Addr) (hu : u.frozen? a = false) : w.frozen? a = false ∧ ¬ G.has a := by
  unfold World.frozen? at hu ⊢
  cases hb : G a.block with
  | none =>
    rw [h.blk _ hb] at hu
    exact ⟨hu, fun ⟨r, hr, _⟩ => by rw [hb] at hr; cases hr⟩
  | some q =>
    obtain ⟨c, e, h1, h2⟩ := h.grd _ _ hb
    rw [h1]
    rw [h2] at hu
    refine ⟨by simp, fun ⟨r, hr, h3, h4⟩ => ?_⟩
    rw [hb] at hr
    obtain rfl := Option.some.inj hr
    simp at hu
    omega
theorem Like.obj (h : Like G w u) {r : Nat} {o : Obj} (hu : u.heap[r]? = some o) (hn : ∀ c e f, o ≠ .cells c e f) : w.heap[r]? = some o := by
  cases hb : G r with
  | none => rw [← h.blk _ hb]; exact hu
  | some q =>
    obtain ⟨c, e, h1, h2⟩ := h.grd _ _ hb
    rw [h2] at hu
    exact absurd (Option.some.inj hu).symm (hn _ _ _)
theorem Like.setCell (h : Like G w u) (a : Addr) (v : Value) : Like G (w.setCell a v) (u.setCell a v) := by
  refine ⟨h.os, h.out, by simp [World.setCell, h.size], fun b hb => ?_, fun b r hb => ?_⟩
  · simp only [World.setCell, Array.getElem?_modify]
    rw [h.blk b hb]
  · obtain ⟨c, e, h1, h2⟩ := h.grd b r hb
    simp only [World.setCell, Array.getElem?_modify]
    by_cases hab : a.block = b
    · rw [if_pos hab, if_pos hab, h1, h2]
      exact ⟨_, _, rfl, rfl⟩
    · rw [if_neg hab, if_neg hab]
      exact ⟨c, e, h1, h2⟩
theorem Like.push (h : Like G w u) (o : Obj) : Like G { w with heap := w.heap.push o } { u with heap := u.heap.push o } := by
  refine ⟨h.os, h.out, by simp [h.size], fun b hb => ?_, fun b r hb => ?_⟩
  · simp only [Array.getElem?_push, h.size]
    rw [h.blk b hb]
  · obtain ⟨c, e, h1, h2⟩ := h.grd b r hb
    have l1 : b < w.heap.size := (Array.getElem?_eq_some_iff.1 h1).1
    refine ⟨c, e, ?_, ?_⟩
    · simp only [Array.getElem?_push]
      rw [if_neg (by omega)]; exact h1
    · simp only [Array.getElem?_push, h.size]
      rw [if_neg (by omega)]; exact h2
end

/-- What a tame operation lists: plain accesses; no write of a guarded cell; no word of deafness. -/
def EvOk (G : Guard) (e : Event) : Prop :=
  (∃ a wr sy, e = ⟨.cell a, wr, sy⟩ ∧ (wr = true → ¬ G.has a)) ∨ (∃ r sy, e = ⟨.obj r, false, sy⟩) ∨ e.loc = .mark .noRoom ∨ ∃ f, e.loc = .mark (.extern f)

/-- What a tame operation leaves as it was: all that is no row of cells; the guarded cells. -/
structure Keeps (G : Guard) (w w' : World) : Prop where
  size : w.heap.size ≤ w'.heap.size
  objs : ∀ (b : Nat) (o : Obj), w.heap[b]? = some o → (∀ c e f, o ≠ .cells c e f) → w'.heap[b]? = some o
  still : ∀ a, G.has a → w'.cell? a = w.cell? a
/-! ### far places: memory seen as another type -/
theorem seen_far (w : World) (τ : Nat → Question → Nat) (d : Nat) (P : Program) (at_ : Addr) (t : TypeId) (k : Addr) (b : Bool) : (w.on τ d).seen P at_ t k b = w.seen P at_ t k b := rfl
theorem farLoad_on (w : World) (τ : Nat → Question → Nat) (d : Nat) (P : Program) (a : Addr) (b : Bool) : (w.on τ d).farLoad P a b = w.farLoad P a b := rfl
section
variable {G : Guard} {w u : World} {P : Program}
theorem seen_other {x y : World} {at_ : Addr} {t : TypeId} {k : Addr} {b : Bool} {c₀ : Array Value} {e₀ : TypeId} {f₀ f₁ : Nat × Nat} (hx : x.heap[at_.block]? = some (.cells c₀ e₀ f₀)) (hy : y.heap[at_.block]? = some (.cells c₀ e₀ f₁)) :
    y.seen P at_ t k b = (x.seen P at_ t k b).map fun r => (r.1, r.2.1, f₁, r.2.2.2) := by
  unfold World.seen
  rw [hx, hy]
  simp only [bind, Except.bind, pure, Except.pure, throwThe, MonadExceptOf.throw, MonadExcept.throw, Except.map]
  repeat' split
  all_goals first
    | rfl
    | (simp_all; done)
    | (simp_all; rename_i hh; subst hh; exact ⟨rfl, rfl, rfl⟩)
theorem seen_frozen {x : World} {at_ : Addr} {t : TypeId} {k : Addr} {b : Bool} {r : Array Value × TypeId × (Nat × Nat) × Nat × Value × List (Nat × Nat × List UInt8)} (h : x.seen P at_ t k b = .ok r) : ∃ c e f, x.heap[at_.block]? = some (.cells c e f) ∧ r.1 = c ∧ r.2.1 = e ∧ r.2.2.1 = f := by
  unfold World.seen at h
  simp only [bind, Except.bind, pure, Except.pure, throwThe, MonadExceptOf.throw, MonadExcept.throw] at h
  repeat' split at h
  all_goals first
    | (cases h; done)
    | (simp_all; done)
    | (rename_i he; cases h; exact ⟨_, _, _, by assumption, rfl, rfl, rfl⟩)
theorem seen_like (h : Like G w u) {at_ : Addr} {t : TypeId} {k : Addr} {b : Bool} {r : Array Value × TypeId × (Nat × Nat) × Nat × Value × List (Nat × Nat × List UInt8)}
    (hu : u.seen P at_ t k b = .ok r) : ∃ f', w.seen P at_ t k b = .ok (r.1, r.2.1, f', r.2.2.2) ∧ (f' = r.2.2.1 ∧ G at_.block = none ∨ f' = (0, 0) ∧ G at_.block = some r.2.2.1) := by
  obtain ⟨c, e, f, hb, h1, h2, h3⟩ := seen_frozen hu
  cases hg : G at_.block with
  | none =>
    have hw : w.heap[at_.block]? = some (.cells c e f) := by rw [← h.blk _ hg]; exact hb
    exact ⟨f, by rw [seen_other hb hw, hu]; rfl, .inl ⟨h3.symm, rfl⟩⟩
  | some q =>
    obtain ⟨c', e', h4, h5⟩ := h.grd _ _ hg
    rw [h5] at hb
    cases hb
    exact ⟨(0, 0), by rw [seen_other h5 h4, hu]; rfl, .inr ⟨rfl, by rw [h3]⟩⟩
theorem viewLoad_like (h : Like G w u) {at_ : Addr} {t : TypeId} {k : Addr} {b : Bool} {r : Value × List Addr} (hu : u.viewLoad P at_ t k b = .ok r) : w.viewLoad P at_ t k b = .ok r := by
  unfold World.viewLoad at hu ⊢
  cases hs : u.seen P at_ t k b with
  | error e => rw [hs] at hu; cases hu
  | ok q =>
    obtain ⟨f', hw, _⟩ := seen_like h hs
    rw [hs] at hu
    rw [hw]
    exact hu
theorem foldlM_free {ε α β : Type} (f g : β → α → Except ε β) (Q : α → Prop) (h : ∀ b a r, f b a = .ok r → g b a = .ok r ∧ Q a) : ∀ (l : List α) (b r : β), l.foldlM f b = .ok r → l.foldlM g b = .ok r ∧ ∀ a ∈ l, Q a
  | [], b, r, e => ⟨e, by simp⟩
  | a :: l, b, r, e => by
    rw [List.foldlM_cons] at e
    cases hf : f b a with
    | error x => rw [hf] at e; cases e
    | ok b₁ =>
      rw [hf] at e
      obtain ⟨h1, h2⟩ := h _ _ _ hf
      obtain ⟨h3, h4⟩ := foldlM_free f g Q h l b₁ r e
      refine ⟨by rw [List.foldlM_cons, h1]; exact h3, fun x hx => ?_⟩
      rcases List.mem_cons.1 hx with rfl | hx
      · exact h2
      · exact h4 x hx
theorem Like.setRow (h : Like G w u) {b : Nat} {c : Array Value} {e : TypeId} {f f' : Nat × Nat} (hf : f' = f ∧ G b = none ∨ f' = (0, 0) ∧ G b = some f) :
    Like G { w with heap := w.heap.setIfInBounds b (.cells c e f') } { u with heap := u.heap.setIfInBounds b (.cells c e f) } := by
  refine ⟨h.os, h.out, by simp [h.size], fun x hx => ?_, fun x r hx => ?_⟩
  · simp only [Array.getElem?_setIfInBounds, h.size]
    by_cases hbx : b = x
    · subst hbx
      rcases hf with ⟨rfl, _⟩ | ⟨_, hf⟩
      · rw [if_pos rfl, if_pos rfl]
      · rw [hx] at hf; cases hf
    · rw [if_neg hbx, if_neg hbx]; exact h.blk x hx
  · obtain ⟨c₁, e₁, h1, h2⟩ := h.grd x r hx
    simp only [Array.getElem?_setIfInBounds, h.size]
    by_cases hbx : b = x
    · subst hbx
      have hlt : b < w.heap.size := (Array.getElem?_eq_some_iff.1 h1).1
      rcases hf with ⟨_, hf⟩ | ⟨rfl, hf⟩
      · rw [hx] at hf; cases hf
      · rw [hx] at hf
        obtain rfl := Option.some.inj hf
        exact ⟨c, e, by simp [hlt], by simp [hlt]⟩
    · rw [if_neg hbx, if_neg hbx]; exact ⟨c₁, e₁, h1, h2⟩
theorem foldlM_apart {ε α : Type} (f : Array Value → Nat × α → Except ε (Array Value)) (h : ∀ b a r, f b a = .ok r → ∀ x, x ≠ a.1 → r[x]? = b[x]?) : ∀ (l : List (Nat × α)) (b r : Array Value), l.foldlM f b = .ok r → ∀ x, (∀ a ∈ l, x ≠ a.1) → r[x]? = b[x]?
  | [], b, r, e, x, hx => by cases e; rfl
  | a :: l, b, r, e, x, hx => by
    rw [List.foldlM_cons] at e
    cases hf : f b a with
    | error y => rw [hf] at e; cases e
    | ok b₁ =>
      rw [hf] at e
      rw [foldlM_apart f h l b₁ r e x (fun a ha => hx a (List.mem_cons_of_mem _ ha)), h _ _ _ hf x (hx a (List.mem_cons_self ..))]
theorem viewStore_like (h : Like G w u) {at_ : Addr} {t : TypeId} {k : Addr} {v : Value} {b : Bool} {u' : World} {l : List Addr} (hu : u.viewStore P at_ t k v b = .ok (u', l)) :
    ∃ w', w.viewStore P at_ t k v b = .ok (w', l) ∧ Like G w' u' ∧ Keeps G w w' ∧ (∀ x ∈ l, ¬ G.has x) ∧ w'.tape = w.tape ∧ w'.drawn = w.drawn ∧ u'.tape = u.tape ∧ u'.drawn = u.drawn := by
  unfold World.viewStore at hu ⊢
  cases ht : tight P P.depth t with
  | false => rw [ht] at hu; cases hu
  | true =>
    rw [ht] at hu
    simp only [Bool.not_true, Bool.false_eq_true, if_false] at hu ⊢
    cases hs : u.seen P at_ t k b with
    | error e => rw [hs] at hu; cases hu
    | ok q =>
      obtain ⟨f', hw, hf⟩ := seen_like h hs
      obtain ⟨c, e, f, n, lk, cs⟩ := q
      rw [hs] at hu
      rw [hw]
      simp only [bind, Except.bind, pure, Except.pure, throwThe, MonadExceptOf.throw, MonadExcept.throw] at hu ⊢
      cases hv : v.bytes? with
      | none => rw [hv] at hu; cases hu
      | some bytes =>
        rw [hv] at hu
        simp only at hu ⊢
        split at hu
        · cases hu
        · rename_i hlen
          rw [if_neg hlen]
          generalize hfold : List.foldlM (m := Except String) _ c cs = fr at hu
          cases fr with
          | error x => cases hu
          | ok c' =>
            simp only [Except.ok.injEq, Prod.mk.injEq] at hu
            obtain ⟨rfl, rfl⟩ := hu
            have key := fun (g : Array Value → Nat × Nat × List UInt8 → Except String (Array Value)) hg => foldlM_free _ g (fun a => ¬ (f.1 ≤ a.1 ∧ a.1 < f.2)) hg cs c c' hfold
            have hfree : ∀ a ∈ cs, ¬ (f.1 ≤ a.1 ∧ a.1 < f.2) := by
              refine (key _ (fun b a r hr => ⟨hr, ?_⟩)).2
              split at hr
              · cases hr
              · split at hr
                · cases hr
                · rename_i h2
                  simpa using h2
            rw [(key _ ?_).1]
            · have hnot : ∀ x ∈ List.map (fun x => ({ block := at_.block, off := x.fst } : Addr)) cs, ¬ G.has x := by
                intro x hx
                obtain ⟨a, ha, rfl⟩ := List.mem_map.1 hx
                rintro ⟨r, hr, h1, h2⟩
                rcases hf with ⟨_, hf⟩ | ⟨_, hf⟩
                · rw [hr] at hf; cases hf
                · rw [hr] at hf
                  obtain rfl := Option.some.inj hf
                  exact hfree a ha ⟨h1, h2⟩
              have hold : w.heap[at_.block]? = some (.cells c e f') := by
                obtain ⟨c₁, e₁, f₁, g1, g2, g3, g4⟩ := seen_frozen hw
                simp only at g2 g3 g4
                rw [g1, g2, g3, g4]
              have hlt : at_.block < w.heap.size := (Array.getElem?_eq_some_iff.1 hold).1
              refine ⟨_, rfl, h.setRow hf, ⟨by simp, fun x o hx hn => ?_, fun a ha => ?_⟩, hnot, rfl, rfl, rfl, rfl⟩
              · simp only [Array.getElem?_setIfInBounds]
                by_cases hbx : at_.block = x
                · subst hbx
                  rw [hold] at hx
                  exact absurd (Option.some.inj hx).symm (hn _ _ _)
                · rw [if_neg hbx]; exact hx
              · unfold World.cell?
                simp only [Array.getElem?_setIfInBounds]
                by_cases hbx : at_.block = a.block
                · rw [if_pos hbx, if_pos hlt, ← hbx, hold]
                  simp only
                  by_cases hsp : a.spot.isSome = true
                  · rw [if_pos hsp, if_pos hsp]
                  · rw [if_neg hsp, if_neg hsp]
                    refine foldlM_apart _ (fun b q r hr x hx => ?_) cs c c' hfold a.off (fun q hq he => ?_)
                    · split at hr
                      · cases hr
                      · split at hr
                        · cases hr
                        · split at hr
                          · split at hr
                            · cases hr
                              rw [Array.getElem?_setIfInBounds_ne (fun h => hx h.symm)]
                            · cases hr
                          · cases hr
                    · obtain ⟨r, hr, h1, h2⟩ := ha
                      exact hnot ⟨at_.block, q.1, none⟩ (List.mem_map.2 ⟨q, hq, rfl⟩) ⟨r, by rw [hbx]; exact hr, by rw [← he]; exact h1, by rw [← he]; exact h2⟩
                · rw [if_neg hbx]
            · intro b a r hr
              split at hr
              · cases hr
              · rename_i h1
                rw [if_neg h1]
                split at hr
                · cases hr
                · rename_i h2
                  have h3 : ¬ (f.1 ≤ a.1 ∧ a.1 < f.2) := by simpa using h2
                  refine ⟨?_, h3⟩
                  rw [if_neg ?_]
                  · exact hr
                  · rcases hf with ⟨rfl, _⟩ | ⟨rfl, _⟩
                    · exact h2
                    · simp
end
end Go.Proofs.Ytoabkcalphpkhaa

/- The law of tame operations: the same is done upon another tape that answers alike, in a world that is like. No program in sight. -/
namespace Go.Proofs.Ytoabkcalphpkhaa
open Go Go.Conc
set_option linter.unusedVariables false
set_option linter.unusedSimpArgs false
set_option linter.unusedSectionVars false

theorem Keeps.refl (G : Guard) (w : World) : Keeps G w w := ⟨Nat.le_refl _, fun _ _ h _ => h, fun _ _ => rfl⟩
theorem Keeps.trans {G : Guard} {a b c : World} (h : Keeps G a b) (k : Keeps G b c) : Keeps G a c :=
  ⟨Nat.le_trans h.size k.size, fun x o hx hn => k.objs x o (h.objs x o hx hn) hn, fun x hx => (k.still x hx).trans (h.still x hx)⟩
theorem Keeps.on {G : Guard} {a b : World} (h : Keeps G a b) (τ σ : Nat → Question → Nat) (d e : Nat) : Keeps G (a.on τ d) (b.on σ e) := ⟨h.size, h.objs, h.still⟩
theorem Keeps.setCell {G : Guard} (w : World) (a : Addr) (v : Value) (h : ¬ G.has a) : Keeps G w (w.setCell a v) := by
  refine ⟨by simp [World.setCell], fun b o hb hn => ?_, fun x hx => ?_⟩
  · simp only [World.setCell, Array.getElem?_modify]
    by_cases hab : a.block = b
    · rw [if_pos hab, hb]
      cases o <;> first | rfl | exact absurd rfl (hn _ _ _)
    · rw [if_neg hab, hb]
  · unfold World.cell?
    simp only [World.setCell, Array.getElem?_modify]
    by_cases hab : a.block = x.block
    · rw [if_pos hab]
      cases hw : w.heap[x.block]? with
      | none => rfl
      | some o =>
        cases o with
        | cells c e f =>
          simp only [Option.map_some]
          by_cases hsp : a.spot.isSome = true
          · rw [if_pos hsp]
          · rw [if_neg hsp]
            have hne : a.off ≠ x.off := by
              intro he
              obtain ⟨r, h1, h2, h3⟩ := hx
              exact h ⟨r, by rw [hab]; exact h1, by rw [he]; exact h2, by rw [he]; exact h3⟩
            rw [Array.getElem?_setIfInBounds_ne hne]
        | _ => rfl
    · rw [if_neg hab]
theorem Keeps.push {G : Guard} (w : World) (o : Obj) (hG : ∀ b r, G b = some r → b < w.heap.size) : Keeps G w { w with heap := w.heap.push o } := by
  have hold : ∀ b x, w.heap[b]? = some x → (w.heap.push o)[b]? = some x := fun b x h => by
    have l : b < w.heap.size := (Array.getElem?_eq_some_iff.1 h).1
    rw [Array.getElem?_push, if_neg (by omega)]; exact h
  refine ⟨by simp, fun b x hb hn => hold b x hb, fun a ha => ?_⟩
  obtain ⟨r, hr, _⟩ := ha
  have l := hG _ _ hr
  unfold World.cell?
  simp only [Array.getElem?_push]
  rw [if_neg (by omega)]
theorem Like.lt {G : Guard} {w u : World} (h : Like G w u) {b : Nat} {r : Nat × Nat} (hr : G b = some r) : b < w.heap.size := by
  obtain ⟨c, e, h1, _⟩ := h.grd b r hr
  exact (Array.getElem?_eq_some_iff.1 h1).1
theorem viewStore_on (w : World) (τ : Nat → Question → Nat) (d : Nat) (P : Program) (at_ : Addr) (t : TypeId) (k : Addr) (v : Value) (b : Bool) : (w.on τ d).viewStore P at_ t k v b = (w.viewStore P at_ t k v b).map fun r => (r.1.on τ d, r.2) := by
  unfold World.viewStore
  rw [seen_far]
  simp only [bind, Except.bind, pure, Except.pure, throwThe, MonadExceptOf.throw, MonadExcept.throw, Except.map]
  repeat' split
  all_goals first
    | rfl
    | (simp_all; done)
    | (simp_all; rename_i hh; subst hh; rfl)
theorem farStore_on (w : World) (τ : Nat → Question → Nat) (d : Nat) (P : Program) (a : Addr) (v : Value) (b : Bool) : (w.on τ d).farStore P a v b = (w.farStore P a v b).map fun r => (r.1.on τ d, r.2) := by
  unfold World.farStore
  show (match w.heap[a.block]? with | some (.view at_ u) => _ | _ => _) = _
  cases hb : w.heap[a.block]? with
  | none => rfl
  | some o =>
    cases o with
    | view at_ t =>
      simp only
      rw [viewStore_on]
      cases w.viewStore P at_ t a v b <;> rfl
    | _ => rfl
theorem farStore_like {G : Guard} {w u u' : World} {P : Program} {a : Addr} {v : Value} {b : Bool} {l : List Addr} (hl : Like G w u) (h : u.farStore P a v b = .ok (u', l)) : ∃ w', w.farStore P a v b = .ok (w', l) ∧ Like G w' u' ∧ Keeps G w w' ∧ ∀ x ∈ l, ¬ G.has x := by
  unfold World.farStore at h ⊢
  cases hb : u.heap[a.block]? with
  | none => rw [hb] at h; cases h
  | some o =>
    rw [hb] at h
    cases o with
    | view at_ t =>
      rw [hl.obj hb (by intro c e f h; cases h)]
      simp only at h ⊢
      cases hv : u.viewStore P at_ t a v b with
      | error x => rw [hv] at h; cases h
      | ok r =>
        obtain ⟨u₁, l₁⟩ := r
        rw [hv] at h
        cases h
        obtain ⟨w', h1, h2, h3, h4, _⟩ := viewStore_like hl hv
        exact ⟨w', by rw [h1], h2, h3, h4⟩
    | _ => cases h

section
variable {P : Program} {fz : Bool} {G : Guard} {α : Type} {L : α → Prop}
theorem Tame.sim {s : Sem α} (h : Tame P fz L s) (hG : fz = false → ∀ b, G b = none) : ∀ {u w : World} {τ : Nat → Question → Nat} {d : Nat} {a : α} {U' : World}, Like G w u → s.run P (u.on τ d) = .ok a U' →
    L a ∧ ∃ (m : Nat) (u' w' : World) (es : Array Event), U' = u'.on τ (d + m) ∧ Like G w' u' ∧ Keeps G w w' ∧ (∀ e ∈ es, EvOk G e) ∧
      ∀ (τ' : Nat → Question → Nat) (d' : Nat) (es0 : Array Event), (∀ j, j < m → τ' (d' + j) = τ (d + j)) → s.runT P (w.on τ' d') es0 = (.ok a (w'.on τ' (d' + m)), es0 ++ es) := by
  induction h with
  | pure hL =>
    intro u w τ d a U' hlike hrun
    simp only [Sem.run, Result.ok.injEq] at hrun
    obtain ⟨rfl, rfl⟩ := hrun
    exact ⟨hL, 0, u, w, #[], rfl, hlike, .refl _ _, by simp, fun τ' d' es0 _ => by simp [Sem.runT]⟩
  | @load m a k _ ih =>
    intro u w τ d b U' hlike hrun
    simp only [Sem.run] at hrun
    have hcw := hlike.cell a
    cases hc : u.cell? a with
    | some v =>
      rw [show (u.on τ d).cell? a = some v from hc] at hrun
      obtain ⟨hL, n, u', w', es, e1, e2, e3, e4, e5⟩ := ih v hlike hrun
      refine ⟨hL, n, u', w', #[⟨.cell a, false, m == .atomic⟩] ++ es, e1, e2, e3, ?_, fun τ' d' es0 hj => ?_⟩
      · intro e he
        rcases Array.mem_append.1 he with he | he
        · simp only [List.mem_singleton, List.mem_toArray] at he
          subst he
          exact .inl ⟨a, false, _, rfl, by simp⟩
        · exact e4 e he
      · simp only [Sem.runT]
        rw [show (w.on τ' d').cell? a = some v from hcw.trans hc]
        simp only
        rw [e5 τ' d' _ hj]
        simp
    | none =>
      rw [show (u.on τ d).cell? a = none from hc] at hrun
      simp only at hrun
      cases hf : u.farLoad P a (m == .atomic) with
      | error x => rw [show (u.on τ d).farLoad P a (m == .atomic) = .error x from hf] at hrun; cases hrun
      | ok r =>
        rw [show (u.on τ d).farLoad P a (m == .atomic) = .ok r from hf] at hrun
        obtain ⟨v, l⟩ := r
        simp only at hrun
        obtain ⟨hL, n, u', w', es, e1, e2, e3, e4, e5⟩ := ih v hlike hrun
        have hfw : w.farLoad P a (m == .atomic) = .ok (v, l) := by
          unfold World.farLoad at hf ⊢
          cases hb : u.heap[a.block]? with
          | none => rw [hb] at hf; cases hf
          | some o =>
            rw [hb] at hf
            cases o with
            | view at_ t =>
              rw [hlike.obj hb (by intro c e f h; cases h)]
              simp only at hf ⊢
              cases hv : u.viewLoad P at_ t a (m == .atomic) with
              | error x => rw [hv] at hf; cases hf
              | ok r =>
                rw [viewLoad_like hlike hv]
                rw [hv] at hf
                exact hf
            | _ => cases hf
        refine ⟨hL, n, u', w', l.toArray.map (⟨.cell ·, false, m == .atomic⟩) ++ es, e1, e2, e3, ?_, fun τ' d' es0 hj => ?_⟩
        · intro e he
          rcases Array.mem_append.1 he with he | he
          · obtain ⟨x, _, rfl⟩ := Array.mem_map.1 he
            exact .inl ⟨x, false, _, rfl, by simp⟩
          · exact e4 e he
        · simp only [Sem.runT]
          rw [show (w.on τ' d').cell? a = none from hcw.trans hc]
          simp only
          rw [show (w.on τ' d').farLoad P a (m == .atomic) = .ok (v, l) from hfw]
          simp only
          rw [e5 τ' d' _ hj]
          simp
  | @store m a v k _ ih =>
    intro u w τ d b U' hlike hrun
    have hcw := hlike.cell a
    cases v <;> simp only [Sem.run] at hrun <;> first
      | (cases hrun; done)
      | skip
    all_goals
      cases hc : u.cell? a with
      | some v =>
        rw [show (u.on τ d).cell? a = some v from hc] at hrun
        simp only at hrun
        cases hfr : u.frozen? a with
        | true =>
          rw [if_pos (show (u.on τ d).frozen? a = true from hfr)] at hrun
          cases hrun
        | false =>
          rw [if_neg (by rw [show (u.on τ d).frozen? a = false from hfr]; simp)] at hrun
          obtain ⟨hw0, hng⟩ := hlike.thaw a hfr
          obtain ⟨hL, n, u', w', es, e1, e2, e3, e4, e5⟩ := ih (hlike.setCell a _) hrun
          refine ⟨hL, n, u', w', #[⟨.cell a, true, m == .atomic⟩] ++ es, e1, e2, (Keeps.setCell w a _ hng).trans e3, ?_, fun τ' d' es0 hj => ?_⟩
          · intro e he
            rcases Array.mem_append.1 he with he | he
            · simp only [List.mem_singleton, List.mem_toArray] at he
              subst he
              exact .inl ⟨a, true, _, rfl, fun _ => hng⟩
            · exact e4 e he
          · simp only [Sem.runT]
            rw [show (w.on τ' d').cell? a = some v from hcw.trans hc]
            simp only
            rw [if_neg (by rw [show (w.on τ' d').frozen? a = false from hw0]; simp)]
            have := e5 τ' d' (es0.push ⟨.cell a, true, m == .atomic⟩) hj
            rw [show (w.on τ' d').setCell a _ = (w.setCell a _).on τ' d' from rfl, this]
            simp
      | none =>
        rw [show (u.on τ d).cell? a = none from hc] at hrun
        simp only at hrun
        cases hf : u.farStore P a _ (m == .atomic) with
        | error x => rw [show (u.on τ d).farStore P a _ (m == .atomic) = _ from farStore_on u τ d P a _ _, hf] at hrun; cases hrun
        | ok r =>
          obtain ⟨u₁, l⟩ := r
          rw [show (u.on τ d).farStore P a _ (m == .atomic) = _ from farStore_on u τ d P a _ _, hf] at hrun
          simp only [Except.map] at hrun
          obtain ⟨w₁, hw1, hl1, hk1, hfree⟩ := farStore_like hlike hf
          obtain ⟨hL, n, u', w', es, e1, e2, e3, e4, e5⟩ := ih hl1 hrun
          refine ⟨hL, n, u', w', l.toArray.map (⟨.cell ·, true, m == .atomic⟩) ++ es, e1, e2, hk1.trans e3, ?_, fun τ' d' es0 hj => ?_⟩
          · intro e he
            rcases Array.mem_append.1 he with he | he
            · obtain ⟨x, hx, rfl⟩ := Array.mem_map.1 he
              exact .inl ⟨x, true, _, rfl, fun _ => hfree x (by simpa using hx)⟩
            · exact e4 e he
          · simp only [Sem.runT]
            rw [show (w.on τ' d').cell? a = none from hcw.trans hc]
            simp only
            rw [show (w.on τ' d').farStore P a _ (m == .atomic) = _ from farStore_on w τ' d' P a _ _, hw1]
            simp only [Except.map]
            rw [e5 τ' d' _ hj]
            simp
  | @new o k _ ih =>
    intro u w τ d b U' hlike hrun
    simp only [Sem.run] at hrun
    obtain ⟨hL, n, u', w', es, e1, e2, e3, e4, e5⟩ := ih u.heap.size (hlike.push o) hrun
    refine ⟨hL, n, u', w', es, e1, e2, (Keeps.push w o fun b r h => hlike.lt h).trans e3, e4, fun τ' d' es0 hj => ?_⟩
    simp only [Sem.runT]
    have := e5 τ' d' es0 hj
    rw [hlike.size] at this
    exact this
  | @shape r k _ ih =>
    intro u w τ d b U' hlike hrun
    simp only [Sem.run] at hrun
    obtain ⟨hL, n, u', w', es, e1, e2, e3, e4, e5⟩ := ih (u.shape? r) hlike hrun
    refine ⟨hL, n, u', w', es, e1, e2, e3, e4, fun τ' d' es0 hj => ?_⟩
    simp only [Sem.runT]
    rw [show (w.on τ' d').shape? r = u.shape? r from hlike.shape r]
    exact e5 τ' d' es0 hj
  | @getObj r k _ ih =>
    intro u w τ d b U' hlike hrun
    simp only [Sem.run] at hrun
    cases hb : u.heap[r]? with
    | none => rw [show (u.on τ d).heap[r]? = none from hb] at hrun; cases hrun
    | some o =>
      rw [show (u.on τ d).heap[r]? = some o from hb] at hrun
      by_cases hcells : ∃ c e f, o = .cells c e f
      · obtain ⟨c, e, f, rfl⟩ := hcells
        cases hrun
      · have hn : ∀ c e f, o ≠ .cells c e f := fun c e f h => hcells ⟨c, e, f, h⟩
        have hbw := hlike.obj hb hn
        have hrun' : (k o).run P (u.on τ d) = .ok b U' := by
          cases o <;> first | exact hrun | exact absurd rfl (hn _ _ _)
        obtain ⟨hL, n, u', w', es, e1, e2, e3, e4, e5⟩ := ih o hlike hrun'
        refine ⟨hL, n, u', w', #[⟨.obj r, false, o.isChan⟩] ++ es, e1, e2, e3, ?_, fun τ' d' es0 hj => ?_⟩
        · intro e he
          rcases Array.mem_append.1 he with he | he
          · simp only [List.mem_singleton, List.mem_toArray] at he
            subst he
            exact .inr (.inl ⟨r, _, rfl⟩)
          · exact e4 e he
        · simp only [Sem.runT]
          rw [show (w.on τ' d').heap[r]? = some o from hbw]
          have := e5 τ' d' (es0.push ⟨.obj r, false, o.isChan⟩) hj
          have hfin : (k o).runT P (w.on τ' d') (es0.push ⟨.obj r, false, o.isChan⟩) = (.ok b (w'.on τ' (d' + n)), es0 ++ (#[⟨.obj r, false, o.isChan⟩] ++ es)) := by rw [this]; simp
          cases o <;> first | exact hfin | exact absurd rfl (hn _ _ _)
  | @frozen a k hf _ ih =>
    intro u w τ d b U' hlike hrun
    have hno := hG hf
    simp only [Sem.run] at hrun
    have hfr : w.frozen? a = u.frozen? a := by
      unfold World.frozen?
      rw [hlike.blk _ (hno _)]
    obtain ⟨hL, n, u', w', es, e1, e2, e3, e4, e5⟩ := ih (u.frozen? a) hlike hrun
    refine ⟨hL, n, u', w', es, e1, e2, e3, e4, fun τ' d' es0 hj => ?_⟩
    simp only [Sem.runT]
    rw [show (w.on τ' d').frozen? a = u.frozen? a from hfr]
    exact e5 τ' d' es0 hj
  | @choose q k _ ih =>
    intro u w τ d b U' hlike hrun
    simp only [Sem.run] at hrun
    by_cases hq : q.forced = true
    · rw [if_pos hq] at hrun
      obtain ⟨hL, n, u', w', es, e1, e2, e3, e4, e5⟩ := ih 0 hlike hrun
      refine ⟨hL, n, u', w', es, e1, e2, e3, e4, fun τ' d' es0 hj => ?_⟩
      simp only [Sem.runT]
      rw [if_pos hq]
      exact e5 τ' d' es0 hj
    · rw [if_neg hq] at hrun
      obtain ⟨hL, n, u', w', es, e1, e2, e3, e4, e5⟩ := ih (q.cut (τ d q)) (τ := τ) (d := d + 1) hlike hrun
      refine ⟨hL, n + 1, u', w', es, by rw [e1, Nat.add_assoc, Nat.add_comm 1 n], e2, e3, e4, fun τ' d' es0 hj => ?_⟩
      simp only [Sem.runT]
      rw [if_neg hq]
      have h0 : τ' d' = τ d := hj 0 (by omega)
      have := e5 τ' (d' + 1) es0 (fun j hjn => by
        have := hj (j + 1) (by omega)
        rw [show d' + 1 + j = d' + (j + 1) by omega, show d + 1 + j = d + (j + 1) by omega]
        exact this)
      show (k (q.cut (τ' d' q))).runT P (w.on τ' (d' + 1)) es0 = _
      rw [h0, this, show d' + 1 + n = d' + (n + 1) by omega]
  | @program k _ ih =>
    intro u w τ d b U' hlike hrun
    simp only [Sem.run] at hrun
    obtain ⟨hL, n, u', w', es, e1, e2, e3, e4, e5⟩ := ih hlike hrun
    exact ⟨hL, n, u', w', es, e1, e2, e3, e4, fun τ' d' es0 hj => by simp only [Sem.runT]; exact e5 τ' d' es0 hj⟩
  | @room k _ ih =>
    intro u w τ d b U' hlike hrun
    simp only [Sem.run] at hrun
    obtain ⟨hL, n, u', w', es, e1, e2, e3, e4, e5⟩ := ih hlike hrun
    refine ⟨hL, n, u', w', #[⟨.mark .noRoom, false, true⟩] ++ es, e1, e2, e3, ?_, fun τ' d' es0 hj => ?_⟩
    · intro e he
      rcases Array.mem_append.1 he with he | he
      · simp only [List.mem_singleton, List.mem_toArray] at he
        subst he
        exact .inr (.inr (.inl rfl))
      · exact e4 e he
    · simp only [Sem.runT]
      rw [e5 τ' d' _ hj]
      simp
  | @extern f k _ ih =>
    intro u w τ d b U' hlike hrun
    simp only [Sem.run] at hrun
    obtain ⟨hL, n, u', w', es, e1, e2, e3, e4, e5⟩ := ih hlike hrun
    refine ⟨hL, n, u', w', #[⟨.mark (.extern f), false, true⟩] ++ es, e1, e2, e3, ?_, fun τ' d' es0 hj => ?_⟩
    · intro e he
      rcases Array.mem_append.1 he with he | he
      · simp only [List.mem_singleton, List.mem_toArray] at he
        subst he
        exact .inr (.inr (.inr ⟨f, rfl⟩))
      · exact e4 e he
    · simp only [Sem.runT]
      rw [e5 τ' d' _ hj]
      simp
  | halt hh =>
    intro u w τ d b U' hlike hrun
    simp only [Sem.run] at hrun
    cases hrun
  | dead h =>
    intro u w τ d b U' hlike hrun
    obtain ⟨hh, w', e, _⟩ := h (u.on τ d)
    rw [e] at hrun
    cases hrun
end
end Go.Proofs.Ytoabkcalphpkhaa

/- One step of plain code: the same upon every tape that answers alike, whoever is below it on the stack, in a world that is like. No program in sight. -/
namespace Go.Proofs.Ytoabkcalphpkhaa
open Go Go.Conc
set_option linter.unusedVariables false
set_option linter.unusedSimpArgs false
set_option linter.unusedSectionVars false

/-- Plain code. -/
def codeOk (P : Program) (fz : Bool) (S : FuncId → Bool) : Code → Bool
  | .region _ ops _ => ops.all fun o => opOk P fz S o.op
  | .seq a b => codeOk P fz S a && codeOk P fz S b
  | .cond _ a b => codeOk P fz S a && codeOk P fz S b
  | .block _ c | .loop c | .scope c => codeOk P fz S c
  | .rangeFunc .. => false
  | _ => true
def itemOk (P : Program) (fz : Bool) (S : FuncId → Bool) : Item → Bool
  | .code c | .inLoop c | .inScope c => codeOk P fz S c
  | .inBlock _ => true
  | .inRegion ops _ => ops.all fun o => opOk P fz S o.op
  | _ => false
structure FrOk (P : Program) (fz : Bool) (S : FuncId → Bool) (fr : Frame) : Prop where
  todo : ∀ i ∈ fr.todo, itemOk P fz S i = true
  defers : fr.defers = []
  kind : fr.kind = .normal
  round : fr.roundOf = none
/-- The functions of the list: each has a body, of plain code. -/
structure ListOk (P : Program) (fz : Bool) (S : FuncId → Bool) : Prop where
  bodied : ∀ f, S f = true → bodied P f = true
  code : ∀ f, S f = true → ∀ c, (P.funcs[f]?).bind (·.body) = some c → codeOk P fz S c = true
  ahead : P.follows .staticDataAhead = true
  ready : ∀ g, P.stepOf g = none

section
variable {P : Program} {fz : Bool} {S : FuncId → Bool}

theorem findLabel_ok : ∀ {c r : Code} {l : Nat}, codeOk P fz S c = true → findLabel c l = some r → codeOk P fz S r = true
  | .seq a b, r, l, h, e => by
    simp only [codeOk, Bool.and_eq_true] at h
    simp only [findLabel] at e
    split at e
    · rename_i x hx
      cases e
      simp only [codeOk, Bool.and_eq_true]
      exact ⟨findLabel_ok h.1 hx, h.2⟩
    · exact findLabel_ok h.2 e
  | .label l', r, l, h, e => by
    simp only [findLabel] at e
    split at e
    · cases e; rfl
    · cases e
  | .skip, _, _, _, e | .region .., _, _, _, e | .cond .., _, _, _, e | .block .., _, _, _, e | .loop .., _, _, _, e | .rangeFunc .., _, _, _, e | .exit _, _, _, _, e | .scope _, _, _, _, e | .goto _, _, _, _, e | .ret, _, _, _, e | .refuse _, _, _, _, e => by
    simp [findLabel] at e
theorem gotoIn_ok : ∀ {k r : List Item} {l : Nat}, (∀ i ∈ k, itemOk P fz S i = true) → gotoIn l k = some r → ∀ i ∈ r, itemOk P fz S i = true
  | [], r, l, h, e => by simp [gotoIn] at e
  | x :: k, r, l, h, e => by
    have hk : ∀ i ∈ k, itemOk P fz S i = true := fun i hi => h i (List.mem_cons_of_mem _ hi)
    cases x with
    | inScope body =>
      have hb : itemOk P fz S (.inScope body) = true := h _ (List.mem_cons_self ..)
      simp only [gotoIn] at e
      split at e
      · rename_i y hy
        cases e
        intro i hi
        rcases List.mem_cons.1 hi with rfl | hi
        · exact findLabel_ok (c := body) hb hy
        · rcases List.mem_cons.1 hi with rfl | hi
          · exact hb
          · exact hk i hi
      · exact gotoIn_ok hk e
    | _ => exact gotoIn_ok hk (by simpa [gotoIn] using e)
theorem exitTo_ok : ∀ {k r : List Item} {l : Nat}, (∀ i ∈ k, itemOk P fz S i = true) → exitTo l k = some r → ∀ i ∈ r, itemOk P fz S i = true
  | [], r, l, h, e => by simp [exitTo] at e
  | x :: k, r, l, h, e => by
    have hk : ∀ i ∈ k, itemOk P fz S i = true := fun i hi => h i (List.mem_cons_of_mem _ hi)
    cases x with
    | inBlock id =>
      simp only [exitTo] at e
      split at e
      · cases e; exact hk
      · exact exitTo_ok hk e
    | _ => exact exitTo_ok hk (by simpa [exitTo] using e)

/-- The caller that nobody may come back to. -/
def poison (P : Program) : Frame := { fn := 0, tmps := #[], todo := [.code (.refuse "")], defers := [{ target := .fn (.func P.funcs.size) #[], args := #[] }], mode := .run, kind := .normal }

/-- The lone run never comes to a return to that caller. -/
def NeverDone (P : Program) (m : Machine) : Prop := ∀ n fr' w', runN P n m = .next (lone fr' [poison P] w') → ¬ (fr'.mode matches .returning)

theorem neverDone_ended {m : Machine} {o : Outcome} {w : World} (h : step P m = .ended o w) (hm : ∀ fr' w', m = lone fr' [poison P] w' → ¬ (fr'.mode matches .returning)) : NeverDone P m := by
  intro n fr' w' hn
  cases n with
  | zero => simp only [runN, Stepped.next.injEq] at hn; exact hm _ _ hn
  | succ n => simp only [runN, h] at hn; cases hn
theorem neverDone_next {m m' : Machine} (h : step P m = .next m') (h' : NeverDone P m') (hm : ∀ fr' w', m = lone fr' [poison P] w' → ¬ (fr'.mode matches .returning)) : NeverDone P m := by
  intro n fr' w' hn
  cases n with
  | zero => simp only [runN, Stepped.next.injEq] at hn; exact hm _ _ hn
  | succ n => simp only [runN, h] at hn; exact h' n fr' w' hn
theorem lone_inj {fr fr' : Frame} {cs cs' : List Frame} {w w' : World} (h : lone fr cs w = lone fr' cs' w') : fr = fr' ∧ cs = cs' ∧ w = w' := by
  simp only [lone, Machine.mk.injEq] at h
  obtain ⟨h1, h2, _⟩ := h
  simp at h2
  exact ⟨h2.1, h2.2, h1⟩
theorem poison_call (w : World) : (invoke (.fn (.func P.funcs.size) #[]) #[]).runT P w #[] = (.halt (.stuck "call: no such function") w, #[]) := by
  unfold invoke callFunc
  show Sem.runT P (Sem.program fun p => _) w #[] = _
  simp only [Sem.runT]
  have h : P.funcs[P.funcs.size]? = none := Array.getElem?_eq_none (Nat.le_refl _)
  show Sem.runT P (Sem.bind (Sem.pure P) fun p => _) w #[] = _
  simp only [Sem.bind, h]
  rfl
theorem poison_step (chain : List PanicEntry) (w : World) : ∃ o w', step P (lone ((poison P).raise chain) [] w) = .ended o w' := by
  have h : (stepG P true { frame := (poison P).raise chain, callers := [], status := .running, dying := none } w).bare = .ended (.stuck "call: no such function" (({ (poison P).raise chain with defers := [] } : Frame).pos P)) w := by
    have hm : ((poison P).raise chain).mode = .panicking chain := rfl
    have hd : ((poison P).raise chain).defers = [{ target := .fn (.func P.funcs.size) #[], args := #[] }] := rfl
    simp only [stepG, hm, unwind, hd, callDeferred, poison_call]
    simp [GStep.after, GStep.bare]
  exact ⟨_, _, step_lone_ended h⟩
theorem raise_panics (c : Frame) (chain : List PanicEntry) : (∃ ch, (c.raise chain).mode = .panicking ch) ∧ (c.raise chain).defers = c.defers := by
  unfold Frame.raise
  split <;> exact ⟨⟨_, rfl⟩, rfl⟩
/-- A panic in plain code: nobody recovers. -/
theorem dead_panic : ∀ (X : List Frame) (fr : Frame) (chain : List PanicEntry) (w : World), (∀ c ∈ X, c.defers = []) → fr.mode = .panicking chain → fr.defers = [] → NeverDone P (lone fr (X ++ [poison P]) w) := by
  intro X
  induction X with
  | nil =>
    intro fr chain w hX hm hdf
    have hnot : ∀ fr' w', lone fr ([] ++ [poison P]) w = lone fr' [poison P] w' → ¬ (fr'.mode matches .returning) := by
      intro fr' w' h
      obtain ⟨rfl, _, _⟩ := lone_inj h
      rw [hm]; simp
    by_cases hc : fr.catches P = true
    · have h : (stepG P true { frame := fr, callers := [poison P], status := .running, dying := none } w).bare = .ended (.unsupported (.noEntry "a panic or Goexit out of a method that fmt calls behind a cut's door") (fr.pos P)) w := by
        simp [stepG, hm, unwind, hdf, hc, GStep.bare]
      exact neverDone_ended (step_lone_ended h) hnot
    · have h : (stepG P true { frame := fr, callers := [poison P], status := .running, dying := none } w).bare = .go { frame := (poison P).raise chain, callers := [], status := .running, dying := none } w := by
        simp [stepG, hm, unwind, hdf, hc, GStep.bare]
      refine neverDone_next (step_lone_go h) ?_ hnot
      obtain ⟨o, w', he⟩ := poison_step (P := P) chain w
      refine neverDone_ended he fun fr' w' h => ?_
      obtain ⟨_, h, _⟩ := lone_inj h
      cases h
  | cons c X ih =>
    intro fr chain w hX hm hdf
    have hnot : ∀ fr' w', lone fr ((c :: X) ++ [poison P]) w = lone fr' [poison P] w' → ¬ (fr'.mode matches .returning) := by
      intro fr' w' h
      obtain ⟨rfl, _, _⟩ := lone_inj h
      rw [hm]; simp
    by_cases hc : fr.catches P = true
    · have h : (stepG P true { frame := fr, callers := (c :: X) ++ [poison P], status := .running, dying := none } w).bare = .ended (.unsupported (.noEntry "a panic or Goexit out of a method that fmt calls behind a cut's door") (fr.pos P)) w := by
        simp [stepG, hm, unwind, hdf, hc, GStep.bare]
      exact neverDone_ended (step_lone_ended h) hnot
    · have h : (stepG P true { frame := fr, callers := (c :: X) ++ [poison P], status := .running, dying := none } w).bare = .go { frame := c.raise chain, callers := X ++ [poison P], status := .running, dying := none } w := by
        simp [stepG, hm, unwind, hdf, hc, GStep.bare]
      obtain ⟨⟨ch, hch⟩, hcd⟩ := raise_panics c chain
      exact neverDone_next (step_lone_go h) (ih (c.raise chain) ch w (fun x hx => hX x (List.mem_cons_of_mem _ hx)) hch (by rw [hcd]; exact hX c (List.mem_cons_self ..))) hnot

/-- The law of tame operations, for both worlds. -/
theorem Tame.sim2 {α : Type} {L : α → Prop} {G : Guard} {s : Sem α} (h : Tame P fz L s) (hG : fz = false → ∀ b, G b = none) {u w : World} {τ : Nat → Question → Nat} {d : Nat} {a : α} {U' : World} (hl : Like G w u) (hr : s.run P (u.on τ d) = .ok a U') :
    L a ∧ ∃ (m : Nat) (u' w' : World) (es : Array Event), U' = u'.on τ (d + m) ∧ Like G w' u' ∧ Keeps G w w' ∧ (∀ e ∈ es, EvOk G e) ∧
      (∀ (τ' : Nat → Question → Nat) (d' : Nat), (∀ j, j < m → τ' (d' + j) = τ (d + j)) → s.runT P (w.on τ' d') #[] = (.ok a (w'.on τ' (d' + m)), es)) ∧
      ∀ (τ' : Nat → Question → Nat) (d' : Nat), (∀ j, j < m → τ' (d' + j) = τ (d + j)) → ∃ es', s.runT P (u.on τ' d') #[] = (.ok a (u'.on τ' (d' + m)), es') := by
  obtain ⟨hL, m, u', w', es, e1, e2, e3, e4, e5⟩ := h.sim hG hl hr
  obtain ⟨_, m2, u2, w2, es2, f1, f2, _, _, f5⟩ := h.sim (G := fun _ => none) (fun _ _ => rfl) (Like.refl u) hr
  have hm : m = m2 := by
    have := congrArg World.drawn (e1.symm.trans f1)
    simp only [World.on] at this
    omega
  subst hm
  have hw2 : ∀ σ e, w2.on σ e = u'.on σ e := by
    intro σ e
    have h1 := e1.symm.trans f1
    simp only [World.on, World.mk.injEq] at h1 ⊢
    obtain ⟨g1, _, _, g2, g3⟩ := h1
    have g4 : w2.heap = u2.heap := Array.ext_getElem? fun i => (f2.blk i rfl).symm
    exact ⟨by rw [g4, g1], trivial, trivial, by rw [g2, f2.os], by rw [g3, f2.out]⟩
  refine ⟨hL, m, u', w', es, e1, e2, e3, e4, fun τ' d' hj => ?_, fun τ' d' hj => ⟨es2, ?_⟩⟩
  · rw [e5 τ' d' #[] hj]; simp
  · rw [f5 τ' d' #[] hj, hw2]; simp
end
end Go.Proofs.Ytoabkcalphpkhaa

/- One step of plain code: it is the goroutine's own, or the lone run never comes back. No program in sight. -/
namespace Go.Proofs.Ytoabkcalphpkhaa
open Go Go.Conc
set_option linter.unusedVariables false
set_option linter.unusedSimpArgs false
set_option linter.unusedSectionVars false

/-- A goroutine that runs. -/
abbrev gr (fr : Frame) (cs : List Frame) : Goroutine := { frame := fr, callers := cs, status := .running, dying := none }

structure StOk (P : Program) (fz : Bool) (S : FuncId → Bool) (fr : Frame) (X : List Frame) : Prop where
  top : FrOk P fz S fr
  mode : fr.mode = .run ∨ fr.mode = .returning
  below : ∀ c ∈ X, FrOk P fz S c ∧ c.mode = .run

/-- A step of the goroutine's own, upon every tape that answers alike. -/
def StepsTo (P : Program) (fz : Bool) (S : FuncId → Bool) (Gd : Guard) (fr : Frame) (X : List Frame) (u w : World) (τ : Nat → Question → Nat) (d : Nat) : Prop :=
  ∃ (fr' : Frame) (X' : List Frame) (m : Nat) (u' w' : World) (es : Array Event), StOk P fz S fr' X' ∧ Like Gd w' u' ∧ Keeps Gd w w' ∧ (∀ e ∈ es, EvOk Gd e) ∧
    (∀ (τ' : Nat → Question → Nat) (d' : Nat) (main : Bool) (cs : List Frame), (∀ j, j < m → τ' (d' + j) = τ (d + j)) → stepG P main (gr fr (X ++ cs)) (w.on τ' d') = .go (gr fr' (X' ++ cs)) (w'.on τ' (d' + m)) es) ∧
    ∀ (τ' : Nat → Question → Nat) (d' : Nat) (main : Bool) (cs : List Frame), (∀ j, j < m → τ' (d' + j) = τ (d + j)) → ∃ es', stepG P main (gr fr (X ++ cs)) (u.on τ' d') = .go (gr fr' (X' ++ cs)) (u'.on τ' (d' + m)) es'

section
variable {P : Program} {fz : Bool} {S : FuncId → Bool} {Gd : Guard} {fr : Frame} {X : List Frame} {u w : World} {τ : Nat → Question → Nat} {d : Nat}

/-- A move of control: the world stands. -/
theorem ctl {fr' : Frame} (hok : StOk P fz S fr' X) (hl : Like Gd w u) (h : ∀ main cs w, stepG P main (gr fr cs) w = .go (gr fr' cs) w) : StepsTo P fz S Gd fr X u w τ d :=
  ⟨fr', X, 0, u, w, #[], hok, hl, .refl _ _, by simp, fun τ' d' main cs _ => h main _ _, fun τ' d' main cs _ => ⟨_, h main _ _⟩⟩
theorem dead_ended (hnd : ¬ (X = [] ∧ fr.mode = .returning)) {oc : Outcome} {w₁ : World} (h : (stepG P true (gr fr (X ++ [poison P])) (u.on τ d)).bare = .ended oc w₁) : NeverDone P (lone fr (X ++ [poison P]) (u.on τ d)) := by
  refine neverDone_ended (step_lone_ended h) fun fr' w' e hm => ?_
  obtain ⟨rfl, hX, _⟩ := lone_inj e
  refine hnd ⟨by cases X with | nil => rfl | cons c X => simp at hX, ?_⟩
  cases hmode : fr.mode <;> simp [hmode] at hm
  rfl

theorem finish_ok {c : Frame} (hc : FrOk P fz S c) (hm : c.mode = .run) (v : Value) : FrOk P fz S (c.finish v) ∧ (c.finish v).mode = .run := by
  unfold Frame.finish
  split
  · rename_i ops i rest k e
    refine ⟨⟨fun x hx => ?_, hc.defers, hc.kind, hc.round⟩, hm⟩
    have h1 := hc.todo
    rw [e] at h1
    rcases List.mem_cons.1 hx with rfl | hx
    · have := h1 _ (List.mem_cons_self ..)
      exact this
    · exact h1 _ (List.mem_cons_of_mem _ hx)
  · rename_i e
    have := hc.todo _ (by rw [e]; exact List.mem_cons_self ..)
    cases this
  · rename_i e
    have := hc.todo _ (by rw [e]; exact List.mem_cons_self ..)
    cases this
  · rename_i e
    have := hc.todo _ (by rw [e]; exact List.mem_cons_self ..)
    cases this
  · rename_i e
    have := hc.todo _ (by rw [e]; exact List.mem_cons_self ..)
    cases this
  · exact ⟨hc, hm⟩
theorem tame_results (fn : Func) (tmps : Array Value) : Tame P fz Tame.Any (results fn tmps) := by
  unfold results
  refine tame_bind (tame_mapM _ (fun r => ?_) _) fun vs => tame_pure trivial
  cases r with
  | tmp t => exact tame_pure trivial
  | cell a t => exact tame_bind (tame_asAddr _) fun _ => tame_loadVar _ _

theorem dead_is (hnd : ¬ (X = [] ∧ fr.mode = .returning)) (h : ∃ oc w₁, (stepG P true (gr fr (X ++ [poison P])) (u.on τ d)).bare = .ended oc w₁) : NeverDone P (lone fr (X ++ [poison P]) (u.on τ d)) := by
  obtain ⟨oc, w₁, h⟩ := h
  exact dead_ended hnd h
/-- The return of a plain function. -/
theorem step_return (hG : fz = false → ∀ b, Gd b = none) (hf : FrOk P fz S fr) (hmode : fr.mode = .returning) {c : Frame} (hX : ∀ x ∈ c :: X, FrOk P fz S x ∧ x.mode = .run) (hl : Like Gd w u) :
    StepsTo P fz S Gd fr (c :: X) u w τ d ∨ NeverDone P (lone fr ((c :: X) ++ [poison P]) (u.on τ d)) := by
  have hbelow : ∀ x ∈ X, FrOk P fz S x ∧ x.mode = .run := fun x hx => hX x (List.mem_cons_of_mem _ hx)
  have hc := hX c (List.mem_cons_self ..)
  have hk := hf.kind
  have hd := hf.defers
  cases hfn : P.funcs[fr.fn]? with
  | none =>
    refine .inl ⟨c.finish (fr.tmps.getD 0 undef), X, 0, u, w, #[], ⟨(finish_ok hc.1 hc.2 _).1, .inl (finish_ok hc.1 hc.2 _).2, hbelow⟩, hl, .refl _ _, by simp, ?_, ?_⟩
    · intro τ' d' main cs _
      simp [stepG, hmode, unwind, hd, hfn, doReturn, hk, gr]
    · intro τ' d' main cs _
      exact ⟨#[], by simp [stepG, hmode, unwind, hd, hfn, doReturn, hk, gr]⟩
  | some fn =>
    have ht := tame_results (P := P) (fz := fz) fn fr.tmps
    cases hr : (results fn fr.tmps).run P (u.on τ d) with
    | ok v U' =>
      obtain ⟨_, m, u', w', es, e1, e2, e3, e4, e5, e6⟩ := ht.sim2 hG hl hr
      refine .inl ⟨c.finish v, X, m, u', w', seen P fr.fn es, ⟨(finish_ok hc.1 hc.2 _).1, .inl (finish_ok hc.1 hc.2 _).2, hbelow⟩, e2, e3, fun e he => e4 e (mem_seen he), ?_, ?_⟩
      · intro τ' d' main cs hj
        have := e5 τ' d' hj
        simp only [stepG, hmode, unwind, hd, hfn, this, gr]
        simp [GStep.after, doReturn, hk]
      · intro τ' d' main cs hj
        obtain ⟨es', this⟩ := e6 τ' d' hj
        simp only [stepG, hmode, unwind, hd, hfn, this, gr]
        exact ⟨seen P fr.fn es', by simp [GStep.after, doReturn, hk]⟩
    | halt hh U' =>
      refine .inr ?_
      have hnd : ¬ (c :: X = [] ∧ fr.mode = .returning) := by simp
      have hrt : ((results fn fr.tmps).runT P (u.on τ d) #[]).1 = .halt hh U' := by rw [Sem.runT_fst]; exact hr
      generalize hq : (results fn fr.tmps).runT P (u.on τ d) #[] = q at hrt
      obtain ⟨q1, q2⟩ := q
      simp only at hrt
      subst hrt
      cases hh with
      | stuck s =>
        refine dead_ended hnd (oc := .stuck s (fr.pos P)) (w₁ := U') ?_
        simp only [stepG, hmode, unwind, hd, hfn, hq, gr]
        simp [GStep.after, GStep.bare]
      | _ =>
        refine dead_ended hnd (oc := .stuck "return: the result variables cannot be read" (fr.pos P)) (w₁ := U') ?_
        simp only [stepG, hmode, unwind, hd, hfn, hq, gr]
        simp [GStep.after, GStep.bare]

/-- An operation of plain code. -/
theorem step_oper (hS : ListOk P fz S) (hG : fz = false → ∀ b, Gd b = none) {fn : FuncId} {tmps : Array Value} {ops : Array Oper} {i : Nat} {rest : List Nat} {k : List Item} {o : Oper}
    (hf : FrOk P fz S { fn, tmps, todo := .inRegion ops (i :: rest) :: k, defers := [], mode := .run, kind := .normal, roundOf := none }) (hX : ∀ x ∈ X, FrOk P fz S x ∧ x.mode = .run) (hl : Like Gd w u)
    (ho : ops[i]? = some o) (hw : Region.wanted o (yielded ops tmps) = true) :
    StepsTo P fz S Gd { fn, tmps, todo := .inRegion ops (i :: rest) :: k, defers := [], mode := .run, kind := .normal, roundOf := none } X u w τ d ∨
      NeverDone P (lone { fn, tmps, todo := .inRegion ops (i :: rest) :: k, defers := [], mode := .run, kind := .normal, roundOf := none } (X ++ [poison P]) (u.on τ d)) := by
  generalize hfr : ({ fn, tmps, todo := .inRegion ops (i :: rest) :: k, defers := [], mode := .run, kind := .normal, roundOf := none } : Frame) = fr at hf ⊢
  have hop : opOk P fz S o.op = true := by
    have := hf.todo (.inRegion ops (i :: rest)) (by rw [← hfr]; exact List.mem_cons_self ..)
    simp only [itemOk, Array.all_eq_true_iff_forall_mem] at this
    exact this o (Array.mem_of_getElem? ho)
  have ht := tame_exec (P := P) (fz := fz) (S := S) hS.bodied (ρ := fr.eval) (fun f => rfl) (fun v => rfl) hop
  have happ : ∀ (main : Bool) (cs : List Frame) (w : World), stepG P main (gr fr cs) w = stepG.apply P true fr cs none (execOp fr.eval o) w := by
    intro main cs w
    subst hfr
    simp [gr, stepG, stepG.exec, stepG.oper, Frame.oper?, ho, hw]
  have hkind : (fr.kind == CallKind.early) = false := by rw [hf.kind]; rfl
  have htodo : fr.todo = .inRegion ops (i :: rest) :: k := by rw [← hfr]
  have hfin := fun v => finish_ok hf (by rw [← hfr]) v
  have hfn : fr.fn = fn := by rw [← hfr]
  have hnd : ¬ (X = [] ∧ fr.mode = .returning) := fun h => by rw [← hfr] at h; cases h.2
  cases hr : (execOp fr.eval o).run P (u.on τ d) with
  | ok a U' =>
    obtain ⟨hleaf, m, u', w', es, e1, e2, e3, e4, e5, e6⟩ := ht.sim2 hG hl hr
    cases a with
    | value v =>
      refine .inl ⟨fr.finish v, X, m, u', w', seen P fr.fn es, ⟨(hfin v).1, .inl (hfin v).2, hX⟩, e2, e3, fun e he => e4 e (mem_seen he), ?_, ?_⟩
      · intro τ' d' main cs hj
        have := e5 τ' d' hj
        rw [happ]
        simp [-Sem.runT_eq, stepG.apply, this, hkind, GStep.after, gr]
      · intro τ' d' main cs hj
        obtain ⟨es', this⟩ := e6 τ' d' hj
        rw [happ]
        exact ⟨seen P fr.fn es', by simp [-Sem.runT_eq, stepG.apply, this, hkind, GStep.after, gr]⟩
    | skip =>
      refine .inl ⟨fr.finish undef, X, m, u', w', seen P fr.fn es, ⟨(hfin undef).1, .inl (hfin undef).2, hX⟩, e2, e3, fun e he => e4 e (mem_seen he), ?_, ?_⟩
      · intro τ' d' main cs hj
        have := e5 τ' d' hj
        rw [happ]
        simp [-Sem.runT_eq, stepG.apply, this, hkind, GStep.after, gr]
      · intro τ' d' main cs hj
        obtain ⟨es', this⟩ := e6 τ' d' hj
        rw [happ]
        exact ⟨seen P fr.fn es', by simp [-Sem.runT_eq, stepG.apply, this, hkind, GStep.after, gr]⟩
    | enter f args =>
      have hfS : S f = true := hleaf
      have hb := hS.bodied f hfS
      have henter : FrOk P fz S (Frame.enter P f args .normal) := by
        refine ⟨fun x hx => ?_, rfl, rfl, rfl⟩
        simp only [Frame.enter, List.mem_singleton] at hx
        subst hx
        unfold bodied at hb
        cases hq : P.funcs[f]? with
        | none => rw [hq] at hb; cases hb
        | some fnn =>
          rw [hq] at hb
          cases hbd : fnn.body with
          | none => simp [hbd] at hb
          | some c =>
            simp only [Option.bind_some, hbd, Option.getD_some]
            exact hS.code f hfS c (by rw [hq]; exact hbd)
      have hX' : ∀ x ∈ fr :: X, FrOk P fz S x ∧ x.mode = .run := by
        intro x hx
        rcases List.mem_cons.1 hx with rfl | hx
        · exact ⟨hf, by rw [← hfr]⟩
        · exact hX x hx
      refine .inl ⟨Frame.enter P f args .normal, fr :: X, m, u', w', seen P fr.fn es, ⟨henter, .inl rfl, hX'⟩, e2, e3, fun e he => e4 e (mem_seen he), ?_, ?_⟩
      · intro τ' d' main cs hj
        have := e5 τ' d' hj
        rw [happ]
        simp [-Sem.runT_eq, stepG.apply, this, hkind, GStep.after, gr, htodo]
      · intro τ' d' main cs hj
        obtain ⟨es', this⟩ := e6 τ' d' hj
        rw [happ]
        exact ⟨seen P fr.fn es', by simp [-Sem.runT_eq, stepG.apply, this, hkind, GStep.after, gr, htodo]⟩
    | _ => exact hleaf.elim
  | halt hh U' =>
    refine .inr ?_
    have hok := ht.halts hr
    have hrt : ((execOp fr.eval o).runT P (u.on τ d) #[]).1 = .halt hh U' := by rw [Sem.runT_fst]; exact hr
    generalize hq : (execOp fr.eval o).runT P (u.on τ d) #[] = q at hrt
    obtain ⟨q1, q2⟩ := q
    simp only at hrt
    subst hrt
    have hst := happ true (X ++ [poison P]) (u.on τ d)
    cases hh with
    | panic v =>
      have hb : (stepG P true (gr fr (X ++ [poison P])) (u.on τ d)).bare = .go (gr (fr.raise [{ v, recovered := false }]) (X ++ [poison P])) U' := by
        rw [hst]
        simp [-Sem.runT_eq, stepG.apply, hq, GStep.after, GStep.bare, gr]
      obtain ⟨⟨ch, hch⟩, hcd⟩ := raise_panics fr [{ v, recovered := false }]
      refine neverDone_next (step_lone_go hb) (dead_panic X _ ch U' (fun c hc => (hX c hc).1.defers) hch (by rw [hcd, hf.defers])) fun fr' w' e hm => ?_
      obtain ⟨rfl, hXe, _⟩ := lone_inj e
      rw [← hfr] at hm
      simp at hm
    | unsupported un =>
      by_cases hun : ∃ g, un = .initOrder g
      · obtain ⟨g, rfl⟩ := hun
        refine dead_ended hnd (oc := .unsupported (.initOrder g) (fr.pos P)) (w₁ := U') ?_
        rw [hst]
        simp [-Sem.runT_eq, stepG.apply, hq, early, hS.ahead, hS.ready g, GStep.after, GStep.bare]
      · refine dead_ended hnd (oc := .unsupported un (fr.pos P)) (w₁ := U') ?_
        rw [hst]
        cases un <;> first
          | exact absurd ⟨_, rfl⟩ hun
          | simp [-Sem.runT_eq, stepG.apply, hq, GStep.after, GStep.bare]
    | stuck st =>
      refine dead_ended hnd (oc := .stuck st (fr.pos P)) (w₁ := U') ?_
      rw [hst]
      simp [-Sem.runT_eq, stepG.apply, hq, GStep.after, GStep.bare]
    | _ => exact hok.elim

/-- ████ ONE STEP OF PLAIN CODE. ████ -/
theorem step_run (hS : ListOk P fz S) (hG : fz = false → ∀ b, Gd b = none) (hok : StOk P fz S fr X) (hmode : fr.mode = .run) (hl : Like Gd w u) :
    StepsTo P fz S Gd fr X u w τ d ∨ NeverDone P (lone fr (X ++ [poison P]) (u.on τ d)) := by
  obtain ⟨hf, _, hX⟩ := hok
  obtain ⟨fn, tmps, todo, defers, mode, kind, roundOf⟩ := fr
  obtain rfl : mode = .run := hmode
  obtain rfl : defers = [] := hf.defers
  obtain rfl : kind = .normal := hf.kind
  obtain rfl : roundOf = none := hf.round
  have hnd : ¬ (X = [] ∧ FrameMode.run = .returning) := fun h => by cases h.2
  -- a frame with another todo
  have mk : ∀ todo', (∀ i ∈ todo', itemOk P fz S i = true) → StOk P fz S { fn, tmps, todo := todo', defers := [], mode := .run, kind := .normal, roundOf := none } X := fun todo' h => ⟨⟨h, rfl, rfl, rfl⟩, .inl rfl, hX⟩
  have mkr : StOk P fz S { fn, tmps, todo, defers := [], mode := .returning, kind := .normal, roundOf := none } X := ⟨⟨hf.todo, rfl, rfl, rfl⟩, .inr rfl, hX⟩
  cases todo with
  | nil => exact .inl (ctl mkr hl fun main cs w => by simp [stepG, stepG.exec])
  | cons x k =>
    have hx : itemOk P fz S x = true := hf.todo x (List.mem_cons_self ..)
    have hk : ∀ i ∈ k, itemOk P fz S i = true := fun i hi => hf.todo i (List.mem_cons_of_mem _ hi)
    have two : ∀ (a b : Item), itemOk P fz S a = true → itemOk P fz S b = true → ∀ i ∈ a :: b :: k, itemOk P fz S i = true := by
      intro a b ha hb i hi
      rcases List.mem_cons.1 hi with rfl | hi
      · exact ha
      · rcases List.mem_cons.1 hi with rfl | hi
        · exact hb
        · exact hk i hi
    have one : ∀ (a : Item), itemOk P fz S a = true → ∀ i ∈ a :: k, itemOk P fz S i = true := by
      intro a ha i hi
      rcases List.mem_cons.1 hi with rfl | hi
      · exact ha
      · exact hk i hi
    cases x with
    | code c =>
      cases c with
      | skip => exact .inl (ctl (mk k hk) hl fun main cs w => by simp [stepG, stepG.exec])
      | label l => exact .inl (ctl (mk k hk) hl fun main cs w => by simp [stepG, stepG.exec])
      | seq a b =>
        have h2 := hx
        simp only [itemOk, codeOk, Bool.and_eq_true] at h2
        exact .inl (ctl (mk (.code a :: .code b :: k) (two _ _ h2.1 h2.2)) hl fun main cs w => by simp [stepG, stepG.exec])
      | cond c a b =>
        have h2 := hx
        simp only [itemOk, codeOk, Bool.and_eq_true] at h2
        generalize hc : (Frame.eval { fn, tmps, todo := .code (.cond c a b) :: k, defers := [], mode := .run, kind := .normal, roundOf := none } c) = v
        by_cases hb : ∃ t, v = .bool t
        · obtain ⟨t, rfl⟩ := hb
          refine .inl (ctl (mk (.code (if t then a else b) :: k) (one _ ?_)) hl fun main cs w => by simp [stepG, stepG.exec, hc])
          cases t
          · exact h2.2
          · exact h2.1
        · refine .inr (dead_is hnd ⟨.stuck "cond: bool expected" (Frame.pos P { fn, tmps, todo := .code (.cond c a b) :: k, defers := [], mode := .run, kind := .normal, roundOf := none }), u.on τ d, ?_⟩)
          simp only [stepG, stepG.exec, hc]
          cases v <;> first
            | exact absurd ⟨_, rfl⟩ hb
            | rfl
      | block id c => exact .inl (ctl (mk (.code c :: .inBlock id :: k) (two _ _ hx rfl)) hl fun main cs w => by simp [stepG, stepG.exec])
      | loop c => exact .inl (ctl (mk (.code c :: .inLoop c :: k) (two _ _ hx hx)) hl fun main cs w => by simp [stepG, stepG.exec])
      | scope c => exact .inl (ctl (mk (.code c :: .inScope c :: k) (two _ _ hx hx)) hl fun main cs w => by simp [stepG, stepG.exec])
      | rangeFunc f ps a b => cases hx
      | exit id =>
        cases he : exitTo id k with
        | some k' => exact .inl (ctl (mk k' (exitTo_ok hk he)) hl fun main cs w => by simp [stepG, stepG.exec, he])
        | none =>
          refine .inr (dead_is hnd ⟨?_, ?_, ?_⟩)
          · exact .stuck "exit, goto: no such block or label" (Frame.pos P { fn, tmps, todo := .code (.exit id) :: k, defers := [], mode := .run, kind := .normal, roundOf := none })
          · exact u.on τ d
          · simp [stepG, stepG.exec, he, GStep.bare]
      | goto l =>
        cases he : gotoIn l k with
        | some k' => exact .inl (ctl (mk k' (gotoIn_ok hk he)) hl fun main cs w => by simp [stepG, stepG.exec, he])
        | none =>
          refine .inr (dead_is hnd ⟨?_, ?_, ?_⟩)
          · exact .stuck "exit, goto: no such block or label" (Frame.pos P { fn, tmps, todo := .code (.goto l) :: k, defers := [], mode := .run, kind := .normal, roundOf := none })
          · exact u.on τ d
          · simp [stepG, stepG.exec, he, GStep.bare]
      | ret => exact .inl (ctl mkr hl fun main cs w => by simp [stepG, stepG.exec])
      | refuse why =>
        refine .inr (dead_is hnd ⟨?_, ?_, ?_⟩)
        · exact .unsupported (Unsupported.elab why) (Frame.pos P { fn, tmps, todo := .code (.refuse why) :: k, defers := [], mode := .run, kind := .normal, roundOf := none })
        · exact u.on τ d
        · simp [stepG, stepG.exec, GStep.bare]
      | region id ops draw =>
        cases draw with
        | false => exact .inl (ctl (mk (.inRegion ops (List.range ops.size) :: k) (one _ hx)) hl fun main cs w => by simp [stepG, stepG.exec])
        | true =>
          have ht := tame_choose (P := P) (fz := fz) (.order fn id)
          have hr : ∃ t U', (choose (.order fn id)).run P (u.on τ d) = .ok t U' := by
            simp only [choose, Sem.run]
            split <;> exact ⟨_, _, rfl⟩
          obtain ⟨t, U', hr⟩ := hr
          obtain ⟨_, m, u', w', es, e1, e2, e3, e4, e5, e6⟩ := ht.sim2 hG hl hr
          refine .inl ⟨{ fn, tmps, todo := .inRegion ops (Region.schedule (P.follows .mixedOrders) ops t) :: k, defers := [], mode := .run, kind := .normal, roundOf := none }, X, m, u', w', #[], mk _ (one _ hx), e2, e3, by simp, ?_, ?_⟩
          · intro τ' d' main cs hj
            have := e5 τ' d' hj
            have h1 : (choose (.order fn id)).run P (w.on τ' d') = .ok t (w'.on τ' (d' + m)) := by rw [← Sem.runT_fst P _ _ #[], this]
            simp [stepG, stepG.exec, h1]
          · intro τ' d' main cs hj
            obtain ⟨es', this⟩ := e6 τ' d' hj
            have h1 : (choose (.order fn id)).run P (u.on τ' d') = .ok t (u'.on τ' (d' + m)) := by rw [← Sem.runT_fst P _ _ #[], this]
            exact ⟨#[], by simp [stepG, stepG.exec, h1]⟩
    | inBlock id => exact .inl (ctl (mk k hk) hl fun main cs w => by simp [stepG, stepG.exec])
    | inScope c => exact .inl (ctl (mk k hk) hl fun main cs w => by simp [stepG, stepG.exec])
    | inLoop c => exact .inl (ctl (mk (.code c :: .inLoop c :: k) (two _ _ hx hx)) hl fun main cs w => by simp [stepG, stepG.exec])
    | inRegion ops l =>
      cases l with
      | nil => exact .inl (ctl (mk k hk) hl fun main cs w => by simp [stepG, stepG.exec])
      | cons i rest =>
        cases ho : ops[i]? with
        | none =>
          obtain ⟨h1, h2⟩ := finish_ok hf rfl undef
          exact .inl (ctl ⟨h1, .inl h2, hX⟩ hl fun main cs w => by simp [stepG, stepG.exec, ho])
        | some o =>
          cases hw : Region.wanted o (yielded ops tmps) with
          | true => exact step_oper hS hG hf hX hl ho hw
          | false =>
            obtain ⟨h1, h2⟩ := finish_ok hf rfl undef
            exact .inl (ctl ⟨h1, .inl h2, hX⟩ hl fun main cs w => by simp [stepG, stepG.exec, ho, hw])
    | _ => cases hx
theorem step_plain (hS : ListOk P fz S) (hG : fz = false → ∀ b, Gd b = none) (hok : StOk P fz S fr X) (hnd : ¬ (X = [] ∧ fr.mode = .returning)) (hl : Like Gd w u) :
    StepsTo P fz S Gd fr X u w τ d ∨ NeverDone P (lone fr (X ++ [poison P]) (u.on τ d)) := by
  rcases hok.mode with h | h
  · exact step_run hS hG hok h hl
  · cases X with
    | nil => exact absurd ⟨rfl, h⟩ hnd
    | cons c X => exact step_return hG hok.top h hok.below hl
end
end Go.Proofs.Ytoabkcalphpkhaa

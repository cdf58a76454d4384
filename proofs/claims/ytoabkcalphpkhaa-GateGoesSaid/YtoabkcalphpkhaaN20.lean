/- Merged: Ends, Rest. -/
import Derived.Test.YtoabkcalphpkhaaN19
import Derived.Conc.LeavingOf
import Derived.Test.YtoabkcalphpkhaaN08
/- The whole machine's run from a walk of the one goroutine it starts with. -/
namespace Go.Proofs.Ytoabkcalphpkhaa
open Go Go.Conc Go.RowKit
set_option linter.unusedVariables false
set_option linter.unusedSimpArgs false
set_option linter.unusedSectionVars false
set_option maxRecDepth 100000

section
variable {C : Ctx Try.prog} {u : World} {b : Frame} {a : Act} {todo : List Item}
theorem Wn.finish {fn : Func} {v : Value} (hne : (2 : Nat) ≠ b.fn) (hk : b.kind = .normal) (hd : a.defers = []) (hf : Try.prog.funcs[b.fn]? = some fn) (hr : ∀ w, (results fn a.tmps).runT Try.prog w #[] = (.ok v w, #[])) (h0 : C.h = 0) (hI : ∀ i, C.I i = none)
    (hpost : ∀ w, Like C.Gd w u → C.Post v w) : Wn C { b.at a todo with mode := .returning } [] u := by
  intro w hl hfl
  rw [h0]
  refine Win.done rfl hI (fun _ => v) (fun _ => #[]) (fun d => ?_) (fun d e h => by simp at h) (fun d => hpost _ (like_w hl w.tape d))
  have h1 := hr (w.at d)
  simp only [stepG, unwind, gr, Frame.at, hd, hf, h1, hk, doReturn]
  simp [GStep.after, seen_none, hne]

theorem runT_results1 {fn : Func} {t : Tmp} (h : fn.results = #[.tmp t]) (tmps : Array Value) (w : World) : (results fn tmps).runT Try.prog w #[] = (.ok (tmps.getD t undef) w, #[]) := by
  unfold results
  rw [h]
  simp

/-- From the walk to the run. -/
theorem ends_of_wn {f : FuncId} {args : Array Value} {W : World} {Post : Value → World → Prop} (h : Wn (ctxQ Post 1) (Frame.enter Try.prog f args .normal) [] W) :
    ∃ M last o w' t', runNT Try.prog (M + 1) (solo (G (Frame.enter Try.prog f args .normal) []) W) #[] = (.ended o w', t') ∧ runN Try.prog M (solo (G (Frame.enter Try.prog f args .normal) []) W) = .next last ∧ step Try.prog last = .ended o w' ∧ Conc.Good Try.prog Post last o w' t' := by
  have hW : Win Try.prog Post 1 0 (gr (Frame.enter Try.prog f args .normal) []) W (fun _ => none) := h W (Like.refl W) ⟨fun i s h => (by cases h), fun i s h => (by cases h)⟩
  have := hW.ends #[gr (Frame.enter Try.prog f args .normal) []] none #[] (fun _ => 0) W.drawn ⟨rfl, fun i g hi hg => ?_, ⟨fun i s h => (by cases h), fun i s h => (by cases h)⟩, fun i j s s' h => (by cases h), rfl, Nat.zero_lt_one, ?_, fun j hj => ⟨?_, rfl⟩⟩ rfl
  · exact this
  · exfalso
    have := (Array.getElem?_eq_some_iff.1 hg).1
    simp at this
    omega
  · exact pastR_nil.congr fun g => rfl
  · rfl
end
end Go.Proofs.Ytoabkcalphpkhaa

/- What is left of a function, if it is plain code: walked as the lone machine's code is. No program in sight. -/
namespace Go.Proofs.Ytoabkcalphpkhaa
open Go Go.Conc
set_option linter.unusedVariables false
set_option linter.unusedSimpArgs false

/-- The rest comes to the return: then K. -/
def atReturn (K : Act → World → Prop) : Exit → Act → World → Prop
  | .normal, a, w | .ret, a, w => a.defers = [] ∧ K a w
  | _, _, _ => False

section
variable {P : Program} {C : Ctx P} {cs : List Frame} {u : World} {b : Frame} {a : Act}
theorem Wn.code {c : Code} {K : Act → World → Prop} {S : FuncId → Bool} (list : ListOk P C.fz S) (hk : b.kind = .normal) (ha : a.defers = []) (hok : codeOk P C.fz S c = true) (hK : ∀ a w τ d, K a w → K a (w.on τ d))
    (h : ∀ τ d, c.wp P (atReturn K) a (u.on τ d)) (hn : ∀ a' u' todo, a'.defers = [] → K a' u' → Wn C { b.at a' todo with mode := .returning } cs u') : Wn C (b.at a [.code c]) cs u := by
  have hst : StOk P C.fz S (b.at a [.code c]) [] := ⟨⟨fun i hi => by
    simp only [Frame.at, List.mem_singleton] at hi
    subst hi
    exact hok, ha, hk, rfl⟩, .inl rfl, by simp⟩
  have hB := bars (R := fun fr' w' => ∃ a' todo, fr' = { b.at a' todo with mode := .returning } ∧ a'.defers = [] ∧ K a' w') list (fun fr w τ d ⟨a', todo, h1, h2, h3⟩ => ⟨a', todo, h1, h2, hK a' w τ d h3⟩) hst (u := u) (fun τ d => by
    obtain ⟨e, a', w', hq, harr⟩ := h τ d b [] [poison P]
    cases e with
    | normal =>
      have h1 : Steps P (lone (b.at a [.code c]) ([] ++ [poison P]) (u.on τ d)) _ := Steps.trans harr (.one step_end)
      obtain ⟨n, h2⟩ := h1
      exact ⟨n, _, w', h2, rfl, a', [], rfl, hq.1, hq.2⟩
    | ret =>
      obtain ⟨todo, n, h2⟩ := harr
      exact ⟨n, _, w', h2, rfl, a', todo, rfl, hq.1, hq.2⟩
    | panic chain => exact hq.elim
    | exit id => exact hq.elim
    | goto l => exact hq.elim
    | outgrown => exact hq.elim)
  exact wn_of_bars (C := { C with S := S, list := list }) (cs := cs) hB (fun fr' u' ⟨a', todo, h1, h2, h3⟩ _ => by subst h1; exact hn a' u' todo h2 h3)
end
end Go.Proofs.Ytoabkcalphpkhaa

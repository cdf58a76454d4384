/- Merged: LatchLaw. -/
import Derived.Test.YtoabkcalphpkhaaN12
import Derived.Test.YtoabkcalphpkhaaN25
import Derived.Test.YtoabkcalphpkhaaN18
/- Latches that threads count down and wait for: what holds between turns, and behind all of them. No program's walk. -/
namespace Go.Proofs.Ytoabkcalphpkhaa
open Go Go.RowKit
set_option linter.unusedVariables false
set_option linter.unusedSimpArgs false

/-- The steps of a trace that counted one down. -/
def isDown (x : St5) : Bool := decide (x.op = 4) && decide (x.new = wrap64 (x.old - 1))
def downsIn (l : List St5) : Nat := l.countP isDown
def okD (p : Cal × Ans) : Bool := decide (p.1.op = 1) && decide (p.2.code = 0)
/-- Within a call, or between two. -/
inductive LP where
  | unborn
  | go
  | dl (u : Nat)
  | dc (d u : Nat)
  | wl (u : Nat)
  | wa (seen u : Nat)
  | ended
structure LG where
  pre : List (Cal × Ans)
  ph : LP
def LG.kin : LG → Kin
  | ⟨_, .wa seen _⟩ => .wait 0 seen
  | ⟨pre, .ended⟩ => .ended (pre.map Prod.snd)
  | ⟨_, .unborn⟩ => .unborn
  | ⟨_, .go⟩ => .unborn
  | _ => .want
def LG.downs (g : LG) : Nat := g.pre.countP okD
def LP.quiet : LP → Bool
  | .wa .. | .ended | .go => true
  | _ => false
def LP.ok (n D : Nat) (pre : List (Cal × Ans)) (rest : List Cal) : LP → Prop
  | .unborn => pre = []
  | .go => True
  | .dl u => u ≤ D
  | .dc d u => u ≤ d ∧ d ≤ D ∧ d < n
  | .wl u => u ≤ D
  | .wa seen u => u ≤ seen ∧ seen ≤ D ∧ seen < n
  | .ended => rest = []
def LG.ok (n : Nat) (stuck : Bool) (D : Nat) (l : List Cal) (g : LG) : Prop :=
  (∀ p ∈ g.pre, (p.2.code = 4 → stuck = true) ∧ (p.1.op = 2 → p.2.code = 0 → D = n)) ∧ ∃ rest, l = g.pre.map Prod.fst ++ rest ∧ g.ph.ok n D g.pre rest
/-- What the trace says of a call's end. -/
def EndL (n : Nat) (scripts : List (List Cal)) (d : Nat) (x : St5) : Prop :=
  ∃ (i j : Nat) (l : List Cal) (c : Cal), x.th = i ∧ x.old = j ∧ scripts[i]? = some l ∧ l[j]? = some c ∧ (x.new = 50 → n ≤ d) ∧ (c.op = 2 → x.new = 0 → n ≤ d)
def TrL (n : Nat) (scripts : List (List Cal)) (tr : List St5) : Prop := ∀ (k : Nat) x, tr[k]? = some x → x.op = 10 → EndL n scripts (downsIn (tr.take k)) x
structure LInv (n : Nat) (scripts : List (List Cal)) (s : Sys) (gs : List LG) : Prop where
  len : gs.length = scripts.length
  vals : s.vals = [(n : Int) - downsIn s.trace]
  chg : s.chg = [(downsIn s.trace : Int)]
  le : downsIn s.trace ≤ n
  sum : (gs.map LG.downs).sum = downsIn s.trace
  tr : TrL n scripts s.trace
  each : ∀ (i : Nat) g l, gs[i]? = some g → scripts[i]? = some l → g.ok n s.stuck (downsIn s.trace) l
  stuck : s.stuck = true → downsIn s.trace < n ∧ ∀ g ∈ gs, g.ph.quiet = true

theorem LG.ok.mono {n D D' : Nat} {st : Bool} {l : List Cal} {g : LG} (h : g.ok n st D l) (h1 : D ≤ D') (h2 : D' ≤ n) : g.ok n st D' l := by
  obtain ⟨h3, rest, h4, h5⟩ := h
  refine ⟨fun p hp => ⟨(h3 p hp).1, fun a b => by have := (h3 p hp).2 a b; omega⟩, rest, h4, ?_⟩
  cases g with
  | mk pre ph => cases ph <;> simp only [LP.ok] at h5 ⊢ <;> first | exact h5 | omega
theorem downsIn_snoc (l : List St5) (x : St5) : downsIn (l ++ [x]) = downsIn l + if isDown x then 1 else 0 := by
  unfold downsIn
  rw [List.countP_append]
  simp [List.countP_cons]
theorem TrL.snoc {n : Nat} {scripts : List (List Cal)} {tr : List St5} {x : St5} (h : TrL n scripts tr) (hx : x.op = 10 → EndL n scripts (downsIn tr) x) : TrL n scripts (tr ++ [x]) := by
  intro k y hk hy
  rw [List.getElem?_append] at hk
  split at hk
  · rename_i hlt
    rw [List.take_append_of_le_length (by omega)]
    exact h k y hk hy
  · rename_i hlt
    have h1 := (List.getElem?_eq_some_iff.1 hk).1
    have h2 : k = tr.length := by simp at h1; omega
    subst h2
    rw [Nat.sub_self] at hk
    cases hk
    rw [List.take_append_of_le_length (Nat.le_refl _), List.take_length]
    exact hx hy

section
variable {n : Nat} {scripts : List (List Cal)} {s : Sys} {gs : List LG} {i : Nat} {pre : List (Cal × Ans)} {c : Cal} {rest : List Cal}
theorem LInv.noted (h : LInv n scripts s gs) {x : St5} (hd : isDown x = false) (hx : x.op = 10 → EndL n scripts (downsIn s.trace) x) : LInv n scripts (s.noted x) gs := by
  have e : downsIn (s.noted x).trace = downsIn s.trace := by
    show downsIn (s.trace ++ [x]) = _
    rw [downsIn_snoc, hd]; rfl
  exact ⟨h.len, by rw [e]; exact h.vals, by rw [e]; exact h.chg, by rw [e]; exact h.le, by rw [e]; exact h.sum, h.tr.snoc hx, by rw [e]; exact h.each, by rw [e]; exact h.stuck⟩
theorem sum_map_set {α : Type} (f : α → Nat) : ∀ (l : List α) (i : Nat) (a b : α), l[i]? = some a → ((l.set i b).map f).sum + f a = (l.map f).sum + f b
  | [], i, a, b, h => by cases h
  | x :: l, 0, a, b, h => by
    obtain rfl := Option.some.inj h
    simp only [List.set_cons_zero, List.map_cons, List.sum_cons]
    omega
  | x :: l, i + 1, a, b, h => by
    have := sum_map_set f l i a b h
    simp only [List.set_cons_succ, List.map_cons, List.sum_cons]
    omega
theorem get_set {α : Type} {l : List α} {i : Nat} {a b : α} (h : l[i]? = some a) : (l.set i b)[i]? = some b := by
  rw [List.getElem?_set, if_pos rfl, if_pos (List.getElem?_eq_some_iff.1 h).1]
theorem LInv.set (h : LInv n scripts s gs) {g g' : LG} (hg : gs[i]? = some g) (hd : g'.downs = g.downs) (hok : ∀ l, scripts[i]? = some l → g'.ok n s.stuck (downsIn s.trace) l) (hq : s.stuck = true → g'.ph.quiet = true) : LInv n scripts s (gs.set i g') := by
  refine ⟨by rw [List.length_set]; exact h.len, h.vals, h.chg, h.le, ?_, h.tr, fun j g2 l hj hl => ?_, fun hs => ⟨(h.stuck hs).1, fun g2 hg2 => ?_⟩⟩
  · have := sum_map_set LG.downs gs i g g' hg
    have := h.sum
    omega
  · rw [List.getElem?_set] at hj
    split at hj
    · rename_i e
      subst e
      split at hj
      · cases hj; exact hok l hl
      · cases hj
    · exact h.each j g2 l hj hl
  · rcases List.mem_or_eq_of_mem_set hg2 with h5 | h5
    · exact (h.stuck hs).2 g2 h5
    · rw [h5]; exact hq hs
theorem LInv.ofg (h : LInv n scripts s gs) {g : LG} (hg : gs[i]? = some g) : ∃ l, scripts[i]? = some l ∧ g.ok n s.stuck (downsIn s.trace) l := by
  have hlt := (List.getElem?_eq_some_iff.1 hg).1
  have hlt' : i < scripts.length := by have := h.len; omega
  have hl : scripts[i]? = some scripts[i] := List.getElem?_eq_getElem hlt'
  exact ⟨_, hl, h.each i g _ hg hl⟩
theorem LInv.calm (h : LInv n scripts s gs) {g : LG} (hg : gs[i]? = some g) (hq : g.ph.quiet = false) : s.stuck = false := by
  cases hs : s.stuck with
  | false => rfl
  | true =>
    have := (h.stuck hs).2 g (List.mem_of_getElem? hg)
    rw [hq] at this; cases this
theorem LInv.few (h : LInv n scripts s gs) (h8 : scripts.length ≤ 8) (h64 : ∀ l ∈ scripts, l.length ≤ 64) : downsIn s.trace ≤ 512 := by
  have key : ∀ gs : List LG, (∀ g ∈ gs, g.downs ≤ 64) → (gs.map LG.downs).sum ≤ gs.length * 64 := by
    intro gs
    induction gs with
    | nil => intro _; exact Nat.le_refl _
    | cons g gs ih =>
      intro hg
      have h1 := hg g List.mem_cons_self
      have h2 := ih fun g' hg' => hg g' (List.mem_cons_of_mem _ hg')
      simp only [List.map_cons, List.sum_cons, List.length_cons]
      omega
  have h1 := key gs fun g hg => by
    obtain ⟨j, hj⟩ := List.mem_iff_getElem?.1 hg
    obtain ⟨l, hl, h3, rest, h4, _⟩ := h.ofg hj
    have h5 := h64 l (List.mem_of_getElem? hl)
    rw [h4, List.length_append, List.length_map] at h5
    have : g.downs ≤ g.pre.length := List.countP_le_length
    omega
  have := h.sum
  have := h.len
  omega
theorem isDown_look (i : Int) (c : Int) (op v : Int) (h : op = 4 → v ≠ wrap64 (v - 1)) : isDown ⟨i, c, op, v, v⟩ = false := by
  unfold isDown
  by_cases e : op = 4
  · simp [e, h e]
  · simp [e]
theorem look_noted (s : Sys) (i op : Int) : (s.put 0 (s.vals.getD 0 0)).did i 0 op (s.vals.getD 0 0) (s.vals.getD 0 0) = s.noted ⟨i, 0, op, s.vals.getD 0 0, s.vals.getD 0 0⟩ := by
  rw [put_put]
  simp [Sys.did, Sys.noted]
theorem LInv.val (h : LInv n scripts s gs) : s.vals.getD 0 0 = (n : Int) - downsIn s.trace := by rw [h.vals]; rfl

/-- One is counted down. -/
theorem LInv.down {d u : Nat} (h : LInv n scripts s gs) (hn : In64 n) (hg : gs[i]? = some ⟨pre, .dc d u⟩) (hv : d = downsIn s.trace) (hs : scripts[i]? = some (pre.map Prod.fst ++ c :: rest)) (hc : c.op = 1) :
    LInv n scripts ((s.put 0 (wrap64 ((n : Int) - d - 1))).did i 0 4 (s.vals.getD 0 0) (wrap64 ((n : Int) - d - 1))) (gs.set i ⟨pre ++ [(c, ⟨0, 0⟩)], .go⟩) := by
  obtain ⟨l, hl, h3, rest', h4, h5, h6, h7⟩ := h.ofg hg
  have hst := h.calm hg rfl
  have hw : wrap64 ((n : Int) - d - 1) = n - d - 1 := by unfold In64 at hn; unfold wrap64; omega
  rw [hw, h.val, ← hv]
  have hdn : isDown ⟨(i : Int), (0 : Nat), 4, (n : Int) - d, (n : Int) - d - 1⟩ = true := by
    unfold isDown
    simp [hw]
  have e : downsIn ((s.put 0 ((n : Int) - d - 1)).did i 0 4 ((n : Int) - d) ((n : Int) - d - 1)).trace = d + 1 := by
    show downsIn (s.trace ++ [_]) = _
    rw [downsIn_snoc, hdn, hv]; rfl
  refine ⟨by rw [List.length_set]; exact h.len, ?_, ?_, by rw [e]; omega, ?_, h.tr.snoc (fun hx => by cases hx), fun j g2 l2 hj hl2 => ?_, fun hs => ?_⟩
  · rw [e]
    show s.vals.set 0 _ = _
    rw [h.vals]
    simp
    omega
  · rw [e]
    show (if (n : Int) - d = n - d - 1 then s.chg else s.chg.set 0 (s.chg.getD 0 0 + 1)) = _
    rw [if_neg (by omega), h.chg, ← hv]
    simp
  · rw [e]
    have h8 := sum_map_set LG.downs gs i _ (⟨pre ++ [(c, ⟨0, 0⟩)], .go⟩ : LG) hg
    have h9 := h.sum
    have h10 : LG.downs ⟨pre ++ [(c, ⟨0, 0⟩)], .go⟩ = LG.downs ⟨pre, .dc d u⟩ + 1 := by
      show List.countP okD (pre ++ [_]) = List.countP okD pre + 1
      rw [List.countP_append]
      simp [List.countP_cons, okD, hc]
    omega
  · rw [e]
    show g2.ok n s.stuck (d + 1) l2
    rw [List.getElem?_set] at hj
    split at hj
    · rename_i e
      subst e
      split at hj
      · cases hj
        rw [hl2] at hs
        cases hs
        refine ⟨fun p hp => ?_, rest, by simp, trivial⟩
        rcases List.mem_append.1 hp with hp | hp
        · refine ⟨(h3 p hp).1, fun a b => ?_⟩
          have := (h3 p hp).2 a b
          omega
        · rw [List.mem_singleton] at hp
          subst hp
          refine ⟨(fun a => by cases a), fun a => ?_⟩
          rw [hc] at a; cases a
      · cases hj
    · exact (h.each j g2 l2 hj hl2).mono (by omega) (by omega)
  · rw [show ((s.put 0 ((n : Int) - d - 1)).did i 0 4 ((n : Int) - d) ((n : Int) - d - 1)).stuck = s.stuck from rfl, hst] at hs
    cases hs
end

/-- The invariant, as a law of threads. -/
def latchLaw (n : Nat) (scripts : List (List Cal)) : Law LG where
  Inv := LInv n scripts
  kin := LG.kin
  pick _ _ h := ⟨h.len, h.vals, h.chg, h.le, h.sum, h.tr, h.each, h.stuck⟩
  jam {s gs} h hs hall hex := by
    have hd : isDown ⟨-1, -1, 7, 0, 0⟩ = false := rfl
    have e : downsIn s.jam.trace = downsIn s.trace := by
      show downsIn (s.trace ++ [_]) = _
      rw [downsIn_snoc, hd]; rfl
    have hph : ∀ g ∈ gs, g.ph.quiet = true := fun g hg => by
      rcases hall g hg with ⟨out, h1⟩ | ⟨c, h1⟩
      · cases g with
        | mk pre ph => cases ph <;> first | rfl | cases h1
      · cases g with
        | mk pre ph => cases ph <;> first | rfl | cases h1
    have hlt : downsIn s.trace < n := by
      obtain ⟨g, hg, c, h1⟩ := hex
      obtain ⟨j, hj⟩ := List.mem_iff_getElem?.1 hg
      obtain ⟨l, hl, h3, rest, h4, h5⟩ := h.ofg hj
      cases g with
      | mk pre ph =>
        cases ph with
        | wa seen u =>
          simp only [LG.kin, Kin.wait.injEq] at h1
          obtain ⟨rfl, h1⟩ := h1
          rw [h.chg] at h1
          have h1 : (seen : Int) = downsIn s.trace := h1
          obtain ⟨_, _, h6⟩ := h5
          omega
        | unborn => cases h1
        | go => cases h1
        | dl u => cases h1
        | dc d u => cases h1
        | wl u => cases h1
        | ended => cases h1
    refine ⟨h.len, by rw [e]; exact h.vals, by rw [e]; exact h.chg, by rw [e]; exact h.le, by rw [e]; exact h.sum, h.tr.snoc (fun hx => by cases hx), fun i g l hg hl => ?_, fun _ => ⟨by rw [e]; exact hlt, hph⟩⟩
    rw [e]
    obtain ⟨h1, h2⟩ := h.each i g l hg hl
    exact ⟨fun p hp => ⟨fun _ => rfl, (h1 p hp).2⟩, h2⟩

section
variable {n : Nat} {scripts : List (List Cal)} {i : Nat} {pre : List (Cal × Ans)} {c : Cal} {rest : List Cal}
theorem latch_down (hn : In64 n) (h8 : scripts.length ≤ 8) (h64 : ∀ l ∈ scripts, l.length ≤ 64) {K : Int → Proc} (hc : c.op = 1) (hs : scripts[i]? = some (pre.map Prod.fst ++ c :: rest))
    (hK : ∀ e s gs, LInv n scripts s gs → gs[i]? = some ⟨pre ++ [(c, ⟨e, 0⟩)], .go⟩ → s.stuck = false → (e = 0 ∨ e = 50 ∧ n ≤ downsIn s.trace) → (latchLaw n scripts).W i (K e) s gs) :
    ∀ (f u : Nat) s gs, 512 < f + u → LInv n scripts s gs → gs[i]? = some ⟨pre, .go⟩ → u ≤ downsIn s.trace → s.stuck = false → (latchLaw n scripts).W i (downP 0 K f) s gs
  | 0, u, s, gs, hf, h, hg, hu, hst => by have := h.few h8 h64; omega
  | f + 1, u, s, gs, hf, h, hg, hu, hst => by
    have hpre : ∀ {s gs g}, LInv n scripts s gs → gs[i]? = some g → g.pre = pre → (∀ p ∈ pre, (p.2.code = 4 → s.stuck = true) ∧ (p.1.op = 2 → p.2.code = 0 → downsIn s.trace = n)) := fun {s gs g} h hg e => by
      obtain ⟨l, _, h3, _⟩ := h.ofg hg
      rw [e] at h3
      exact h3
    have hsplit : ∀ l, scripts[i]? = some l → l = pre.map Prod.fst ++ c :: rest := fun l hl => by rw [hs] at hl; exact (Option.some.inj hl).symm
    refine ⟨⟨pre, .dl u⟩, rfl, h.set hg rfl (fun l hl => ⟨hpre h hg rfl, _, hsplit l hl, hu⟩) (fun hs => by rw [hst] at hs; cases hs), fun s1 gs1 h1 g1 => ?_⟩
    have h1 : LInv n scripts s1 gs1 := h1
    have st1 := h1.calm g1 rfl
    obtain ⟨_, _, _, _, _, hu1⟩ := h1.ofg g1
    have hu1 : u ≤ downsIn s1.trace := hu1
    have hv := h1.val
    rw [show (id (s1.vals.getD 0 0) : Int) = s1.vals.getD 0 0 from rfl, look_noted]
    have h2 : LInv n scripts (s1.noted ⟨i, 0, 1, s1.vals.getD 0 0, s1.vals.getD 0 0⟩) gs1 := h1.noted (isDown_look _ _ _ _ (fun e => by cases e)) (fun e => by cases e)
    have e2 : downsIn (s1.noted ⟨i, 0, 1, s1.vals.getD 0 0, s1.vals.getD 0 0⟩).trace = downsIn s1.trace := by
      show downsIn (s1.trace ++ [_]) = _
      rw [downsIn_snoc, isDown_look _ _ _ _ (fun e => by cases e)]; rfl
    have st2 : (s1.noted ⟨i, 0, 1, s1.vals.getD 0 0, s1.vals.getD 0 0⟩).stuck = false := st1
    generalize s1.noted ⟨i, 0, 1, s1.vals.getD 0 0, s1.vals.getD 0 0⟩ = s2 at h2 e2 st2 ⊢
    generalize s1.vals.getD 0 0 = v at hv ⊢
    dsimp only
    by_cases h0 : v = 0
    · rw [if_pos h0]
      refine Law.W_set ⟨pre ++ [(c, ⟨50, 0⟩)], .go⟩ _ _ _ (hK 50 s2 _ (h2.set (g' := ⟨pre ++ [(c, ⟨50, 0⟩)], .go⟩) g1 ?_ (fun l hl => ⟨fun p hp => ?_, rest, by rw [hsplit l hl]; simp, trivial⟩) (fun hs => by rw [st2] at hs; cases hs)) (get_set g1) st2 (.inr ⟨rfl, by omega⟩))
      · show List.countP okD (pre ++ [_]) = List.countP okD pre
        rw [List.countP_append]
        simp [List.countP_cons, okD]
      · rcases List.mem_append.1 hp with hp | hp
        · exact hpre h2 g1 rfl p hp
        · rw [List.mem_singleton] at hp
          subst hp
          exact ⟨(fun a => by cases a), fun a => by rw [hc] at a; cases a⟩
    · rw [if_neg h0]
      have hle := h1.le
      refine ⟨⟨pre, .dc (downsIn s1.trace) u⟩, rfl, h2.set g1 rfl (fun l hl => ⟨hpre h2 g1 rfl, _, hsplit l hl, hu1, by rw [e2]; exact Nat.le_refl _, by omega⟩) (fun hs => by rw [st2] at hs; cases hs), fun s3 gs3 h3 g3 => ?_⟩
      have h3 : LInv n scripts s3 gs3 := h3
      have st3 := h3.calm g3 rfl
      obtain ⟨_, _, _, _, _, _, hd3, _⟩ := h3.ofg g3
      have hv3 := h3.val
      dsimp only
      by_cases e : s3.vals.getD 0 0 = v
      · rw [if_pos e, if_pos e]
        have hd : downsIn s1.trace = downsIn s3.trace := by omega
        have h4 := h3.down hn g3 hd hs hc
        rw [hv]
        exact Law.W_set ⟨pre ++ [(c, ⟨0, 0⟩)], .go⟩ _ _ _ (hK 0 _ _ h4 (get_set g3) st3 (.inl rfl))
      · rw [if_neg e, if_neg e, look_noted]
        have hdl : isDown ⟨(i : Int), 0, 4, s3.vals.getD 0 0, s3.vals.getD 0 0⟩ = false := isDown_look _ _ _ _ fun _ => by
          have := h3.le
          unfold In64 at hn
          rw [hv3]
          unfold wrap64
          omega
        have h4 : LInv n scripts (s3.noted ⟨i, 0, 4, s3.vals.getD 0 0, s3.vals.getD 0 0⟩) gs3 := h3.noted hdl (fun e => by cases e)
        have e4 : downsIn (s3.noted ⟨i, 0, 4, s3.vals.getD 0 0, s3.vals.getD 0 0⟩).trace = downsIn s3.trace := by
          show downsIn (s3.trace ++ [_]) = _
          rw [downsIn_snoc, hdl]; rfl
        have st4 : (s3.noted ⟨i, 0, 4, s3.vals.getD 0 0, s3.vals.getD 0 0⟩).stuck = false := st3
        refine Law.W_set ⟨pre, .go⟩ _ _ _ (latch_down hn h8 h64 hc hs hK f (u + 1) _ _ (by omega) (h4.set g3 rfl (fun l hl => ⟨hpre h4 g3 rfl, _, hsplit l hl, trivial⟩) (fun hs => by rw [st4] at hs; cases hs)) (get_set g3) ?_ st4)
        rw [e4]
        have : downsIn s1.trace ≠ downsIn s3.trace := fun e' => e (by omega)
        omega
theorem latch_wait (hn : In64 n) (h8 : scripts.length ≤ 8) (h64 : ∀ l ∈ scripts, l.length ≤ 64) {K : Bool → Proc} (hc : c.op = 2) (hs : scripts[i]? = some (pre.map Prod.fst ++ c :: rest))
    (hK : ∀ (b : Bool) s gs, LInv n scripts s gs → gs[i]? = some ⟨pre ++ [(c, ⟨if b then 0 else 4, 0⟩)], .go⟩ → (b = true → s.stuck = false ∧ n ≤ downsIn s.trace) → (b = false → s.stuck = true) → (latchLaw n scripts).W i (K b) s gs) :
    ∀ (f u : Nat) s gs, 512 < f + u → LInv n scripts s gs → gs[i]? = some ⟨pre, .go⟩ → u ≤ downsIn s.trace → s.stuck = false → (latchLaw n scripts).W i (waitP 0 K f) s gs
  | 0, u, s, gs, hf, h, hg, hu, hst => by have := h.few h8 h64; omega
  | f + 1, u, s, gs, hf, h, hg, hu, hst => by
    have hpre : ∀ {s gs g}, LInv n scripts s gs → gs[i]? = some g → g.pre = pre → (∀ p ∈ pre, (p.2.code = 4 → s.stuck = true) ∧ (p.1.op = 2 → p.2.code = 0 → downsIn s.trace = n)) := fun {s gs g} h hg e => by
      obtain ⟨l, _, h3, _⟩ := h.ofg hg
      rw [e] at h3
      exact h3
    have hsplit : ∀ l, scripts[i]? = some l → l = pre.map Prod.fst ++ c :: rest := fun l hl => by rw [hs] at hl; exact (Option.some.inj hl).symm
    have hdowns : ∀ b : Bool, LG.downs ⟨pre ++ [(c, ⟨if b then 0 else 4, 0⟩)], .go⟩ = List.countP okD pre := fun b => by
      show List.countP okD (pre ++ [_]) = List.countP okD pre
      rw [List.countP_append]
      simp [List.countP_cons, okD, hc]
    refine ⟨⟨pre, .wl u⟩, rfl, h.set hg rfl (fun l hl => ⟨hpre h hg rfl, _, hsplit l hl, hu⟩) (fun hs => by rw [hst] at hs; cases hs), fun s1 gs1 h1 g1 => ?_⟩
    have h1 : LInv n scripts s1 gs1 := h1
    have st1 := h1.calm g1 rfl
    obtain ⟨_, _, _, _, _, hu1⟩ := h1.ofg g1
    have hu1 : u ≤ downsIn s1.trace := hu1
    have hv := h1.val
    rw [show (id (s1.vals.getD 0 0) : Int) = s1.vals.getD 0 0 from rfl, look_noted]
    have h2 : LInv n scripts (s1.noted ⟨i, 0, 1, s1.vals.getD 0 0, s1.vals.getD 0 0⟩) gs1 := h1.noted (isDown_look _ _ _ _ (fun e => by cases e)) (fun e => by cases e)
    have e2 : downsIn (s1.noted ⟨i, 0, 1, s1.vals.getD 0 0, s1.vals.getD 0 0⟩).trace = downsIn s1.trace := by
      show downsIn (s1.trace ++ [_]) = _
      rw [downsIn_snoc, isDown_look _ _ _ _ (fun e => by cases e)]; rfl
    have st2 : (s1.noted ⟨i, 0, 1, s1.vals.getD 0 0, s1.vals.getD 0 0⟩).stuck = false := st1
    generalize s1.noted ⟨i, 0, 1, s1.vals.getD 0 0, s1.vals.getD 0 0⟩ = s2 at h2 e2 st2 ⊢
    generalize s1.vals.getD 0 0 = v at hv ⊢
    have hle := h1.le
    dsimp only
    by_cases h0 : v = 0
    · rw [if_pos h0]
      refine Law.W_set ⟨pre ++ [(c, ⟨if true then 0 else 4, 0⟩)], .go⟩ _ _ _ (hK true s2 _ (h2.set (g' := ⟨pre ++ [(c, ⟨if true then 0 else 4, 0⟩)], .go⟩) g1 (hdowns true) (fun l hl => ⟨fun p hp => ?_, rest, by rw [hsplit l hl]; simp, trivial⟩) (fun hs => by rw [st2] at hs; cases hs)) (get_set g1) (fun _ => ⟨st2, by omega⟩) (fun e => by cases e))
      rcases List.mem_append.1 hp with hp | hp
      · exact hpre h2 g1 rfl p hp
      · rw [List.mem_singleton] at hp
        subst hp
        exact ⟨(fun a => by cases a), fun _ _ => by omega⟩
    · rw [if_neg h0]
      show (if s2.stuck then _ else _)
      rw [st2]
      simp only [Bool.false_eq_true, if_false]
      have hchg : s2.chg.getD 0 0 = (downsIn s1.trace : Int) := by rw [h2.chg, e2]; rfl
      rw [hchg]
      refine ⟨⟨pre, .wa (downsIn s1.trace) u⟩, rfl, h2.set g1 rfl (fun l hl => ⟨hpre h2 g1 rfl, _, hsplit l hl, hu1, by rw [e2]; exact Nat.le_refl _, by omega⟩) (fun hs => by rw [st2] at hs; cases hs), fun s3 gs3 h3 g3 => ?_⟩
      have h3 : LInv n scripts s3 gs3 := h3
      obtain ⟨_, _, _, _, _, _, hd3, _⟩ := h3.ofg g3
      cases st3 : s3.stuck with
      | true =>
        simp only [if_true]
        refine Law.W_set ⟨pre ++ [(c, ⟨if false then 0 else 4, 0⟩)], .go⟩ _ _ _ (hK false s3 _ (h3.set (g' := ⟨pre ++ [(c, ⟨if false then 0 else 4, 0⟩)], .go⟩) g3 (hdowns false) (fun l hl => ⟨fun p hp => ?_, rest, by rw [hsplit l hl]; simp, trivial⟩) (fun _ => rfl)) (get_set g3) (fun e => by cases e) (fun _ => st3))
        rcases List.mem_append.1 hp with hp | hp
        · exact hpre h3 g3 rfl p hp
        · rw [List.mem_singleton] at hp
          subst hp
          exact ⟨fun _ => st3, fun _ a => by cases a⟩
      | false =>
        simp only [Bool.false_eq_true, if_false, if_true]
        intro hne
        have hc3 : s3.chg.getD 0 0 = (downsIn s3.trace : Int) := by rw [h3.chg]; rfl
        rw [hc3] at hne
        have h4 : LInv n scripts (s3.noted ⟨i, (0 : Nat), 6, 0, 0⟩) gs3 := h3.noted rfl (fun e => by cases e)
        have e4 : downsIn (s3.noted ⟨i, (0 : Nat), 6, 0, 0⟩).trace = downsIn s3.trace := by
          show downsIn (s3.trace ++ [_]) = _
          rw [downsIn_snoc]; rfl
        have st4 : (s3.noted ⟨i, (0 : Nat), 6, 0, 0⟩).stuck = false := st3
        refine Law.W_set ⟨pre, .go⟩ _ _ _ (latch_wait hn h8 h64 hc hs hK f (u + 1) _ _ (by omega) (h4.set g3 rfl (fun l hl => ⟨hpre h4 g3 rfl, _, hsplit l hl, trivial⟩) (fun hs => by rw [st4] at hs; cases hs)) (get_set g3) ?_ st4)
        rw [e4]
        omega

theorem zip_snd_pad (rest : List Cal) : (rest.map fun c => (c, (⟨4, 0⟩ : Ans))).map Prod.snd = rest.map fun _ => ⟨4, 0⟩ := by
  rw [List.map_map]; rfl
/-- A thread's script. -/
theorem latch_one (hn : In64 n) (h8 : scripts.length ≤ 8) (h64 : ∀ l ∈ scripts, l.length ≤ 64) {F : Nat} (hF : 512 < F) :
    ∀ (rest : List Cal) (pre : List (Cal × Ans)) s gs, LInv n scripts s gs → gs[i]? = some ⟨pre, .go⟩ → scripts[i]? = some (pre.map Prod.fst ++ rest) → s.stuck = false → (latchLaw n scripts).W i (oneP (doLatch F) pre.length rest (pre.map Prod.snd)) s gs
  | [], pre, s, gs, h, hg, hs, hst => by
    obtain ⟨l, hl, h3, _⟩ := h.ofg hg
    refine ⟨⟨pre, .ended⟩, rfl, h.set hg rfl (fun l' hl' => ⟨h3, [], ?_, rfl⟩) (fun hs => rfl)⟩
    rw [hs] at hl'
    exact (Option.some.inj hl').symm
  | c :: rest, pre, s, gs, h, hg, hs, hst => by
    -- behind the call's answer
    have hK : ∀ (a : Ans) s gs, LInv n scripts s gs → gs[i]? = some ⟨pre ++ [(c, a)], .go⟩ → (a.code = 4 → s.stuck = true) → (a.code ≠ 4 → s.stuck = false) → (a.code = 50 → n ≤ downsIn s.trace) → (c.op = 2 → a.code = 0 → n ≤ downsIn s.trace) →
        (latchLaw n scripts).W i (.note 10 pre.length a.code (if a.code = 4 then .ret (pre.map Prod.snd ++ a :: rest.map fun _ => ⟨4, 0⟩) else oneP (doLatch F) (pre.length + 1) rest (pre.map Prod.snd ++ [a]))) s gs := by
      intro a s gs h hg ha1 ha2 ha3 ha4
      have h1 : LInv n scripts (s.noted ⟨i, -1, 10, pre.length, a.code⟩) gs := h.noted rfl fun _ => ⟨i, pre.length, _, c, rfl, rfl, hs, by rw [List.getElem?_append_right (by simp)]; simp, ha3, ha4⟩
      have hsplit : ∀ l, scripts[i]? = some l → l = pre.map Prod.fst ++ c :: rest := fun l hl => by rw [hs] at hl; exact (Option.some.inj hl).symm
      show (latchLaw n scripts).W i _ (s.noted ⟨i, -1, 10, pre.length, a.code⟩) gs
      by_cases e4 : a.code = 4
      · rw [if_pos e4]
        have st := ha1 e4
        obtain ⟨l, hl, h3, _⟩ := h1.ofg hg
        refine ⟨⟨(pre ++ [(c, a)]) ++ rest.map fun c => (c, ⟨4, 0⟩), .ended⟩, ?_, h1.set hg ?_ (fun l' hl' => ⟨fun p hp => ?_, [], ?_, rfl⟩) (fun _ => rfl)⟩
        · show Kin.ended _ = Kin.ended _
          rw [List.map_append, zip_snd_pad]
          simp
        · show List.countP okD (_ ++ _) = List.countP okD _
          rw [List.countP_append]
          have : List.countP okD (rest.map fun c => (c, (⟨4, 0⟩ : Ans))) = 0 := by
            rw [List.countP_eq_zero]
            intro p hp
            obtain ⟨c', _, rfl⟩ := List.mem_map.1 hp
            simp [okD]
          rw [this]; rfl
        · rcases List.mem_append.1 hp with hp | hp
          · exact h3 p hp
          · obtain ⟨c', _, rfl⟩ := List.mem_map.1 hp
            exact ⟨fun _ => st, fun _ a => by cases a⟩
        · rw [hsplit l' hl']
          simp [List.map_map, Function.comp_def]
      · rw [if_neg e4]
        have := latch_one hn h8 h64 hF rest (pre ++ [(c, a)]) _ gs h1 hg (by rw [hs]; simp) (ha2 e4)
        simpa using this
    have h1 : LInv n scripts (s.noted ⟨i, -1, 9, pre.length, 0⟩) gs := h.noted rfl (fun e => by cases e)
    have st1 : (s.noted ⟨i, -1, 9, pre.length, 0⟩).stuck = false := hst
    show (latchLaw n scripts).W i (doLatch F c _) (s.noted ⟨i, -1, 9, pre.length, 0⟩) gs
    generalize s.noted ⟨i, -1, 9, pre.length, 0⟩ = s1 at h1 st1 ⊢
    unfold doLatch
    by_cases h1' : c.op = 1
    · rw [if_pos h1']
      refine latch_down hn h8 h64 h1' hs (fun e s gs h hg hst he => hK ⟨e, 0⟩ s gs h hg ?_ (fun _ => hst) ?_ ?_) F 0 s1 gs (by omega) h1 hg (Nat.zero_le _) st1
      · rcases he with e' | e'
        · rw [e']; intro a; cases a
        · rw [e'.1]; intro a; cases a
      · rcases he with e' | e'
        · rw [e']; intro a; cases a
        · intro _; exact e'.2
      · intro a; rw [h1'] at a; cases a
    · rw [if_neg h1']
      by_cases h2' : c.op = 2
      · rw [if_pos h2']
        refine latch_wait hn h8 h64 h2' hs (fun b s gs h hg hb1 hb2 => ?_) F 0 s1 gs (by omega) h1 hg (Nat.zero_le _) st1
        cases b with
        | true => exact hK ⟨0, 0⟩ s gs h hg (fun a => by cases a) (fun _ => (hb1 rfl).1) (fun a => by cases a) (fun _ _ => (hb1 rfl).2)
        | false => exact hK ⟨4, 0⟩ s gs h hg (fun _ => hb2 rfl) (fun a => absurd rfl a) (fun a => by cases a) (fun _ a => by cases a)
      · rw [if_neg h2']
        obtain ⟨l, hl, h3, _⟩ := h1.ofg hg
        refine Law.W_set ⟨pre ++ [(c, ⟨1, 0⟩)], .go⟩ _ _ _ (hK ⟨1, 0⟩ s1 _ (h1.set (g' := ⟨pre ++ [(c, ⟨1, 0⟩)], .go⟩) hg ?_ (fun l hl => ⟨fun p hp => ?_, rest, ?_, trivial⟩) (fun hs => by rw [st1] at hs; cases hs)) (get_set hg) (fun a => by cases a) (fun _ => st1) (fun a => by cases a) (fun _ a => by cases a))
        · show List.countP okD (pre ++ [_]) = List.countP okD pre
          rw [List.countP_append]
          simp [List.countP_cons, okD]
        · rcases List.mem_append.1 hp with hp | hp
          · exact h3 p hp
          · rw [List.mem_singleton] at hp
            subst hp
            exact ⟨(fun a => by cases a), fun _ a => by cases a⟩
        · rw [hs] at hl
          rw [← Option.some.inj hl]; simp

theorem downP_dep {K : Int → Proc} {m : Nat} (h : ∀ e, Proc.dep (K e) m) : ∀ f, Proc.dep (downP 0 K f) (m + 2 * f)
  | 0 => trivial
  | f + 1 => by
    refine ⟨by omega, fun v => ?_⟩
    dsimp only
    split
    · exact Proc.dep_mono (h 50) (by omega)
    · refine ⟨by omega, fun x => ?_⟩
      dsimp only
      split
      · exact Proc.dep_mono (h 0) (by omega)
      · exact Proc.dep_mono (downP_dep h f) (by omega)
theorem waitP_dep {K : Bool → Proc} {m : Nat} (h : ∀ e, Proc.dep (K e) m) : ∀ f, Proc.dep (waitP 0 K f) (m + 2 * f)
  | 0 => trivial
  | f + 1 => by
    refine ⟨by omega, fun v => ?_⟩
    dsimp only
    split
    · exact Proc.dep_mono (h true) (by omega)
    · refine ⟨by omega, fun x => ?_⟩
      dsimp only
      split
      · exact Proc.dep_mono (waitP_dep h f) (by omega)
      · exact Proc.dep_mono (h false) (by omega)
theorem doLatch_dep (F : Nat) (c : Cal) (k : Ans → Proc) (m : Nat) (h : ∀ a, Proc.dep (k a) m) : Proc.dep (doLatch F c k) (m + 2 * F) := by
  unfold doLatch
  split
  · exact downP_dep (fun e => h _) F
  · split
    · exact waitP_dep (fun b => by split <;> exact h _) F
    · exact Proc.dep_mono (h _) (by omega)

/-- All calls with their answers. -/
def pairsOf (scripts : List (List Cal)) (outs : List (List Ans)) : List (Cal × Ans) := (List.zipWith List.zip scripts outs).flatten
structure LatchFin (n : Nat) (scripts : List (List Cal)) (fin : Sys × List Park) : Prop where
  len : fin.2.length = scripts.length
  lens : ∀ (i : Nat) l pk, scripts[i]? = some l → fin.2[i]? = some pk → (outOf pk).length = l.length
  room : fin.1.trace.length ≤ 700000
  le : downsIn fin.1.trace ≤ n
  fine : (pairsOf scripts (fin.2.map outOf)).countP okD = downsIn fin.1.trace
  stuck : ∀ p ∈ pairsOf scripts (fin.2.map outOf), p.2.code = 4 → downsIn fin.1.trace < n
  waits : ∀ p ∈ pairsOf scripts (fin.2.map outOf), p.1.op = 2 → p.2.code = 0 → downsIn fin.1.trace = n
  tr : TrL n scripts fin.1.trace

theorem zip_map_map {α β : Type} (l : List (α × β)) : List.zip (l.map Prod.fst) (l.map Prod.snd) = l := by
  induction l with
  | nil => rfl
  | cons x l ih => simp [ih]
theorem latch_fin (hn : In64 n) (h8 : scripts.length ≤ 8) (h64 : ∀ l ∈ scripts, l.length ≤ 64) (sched : List Int) {K F : Nat} (hK : K = 700000) (hF : F = 600) :
    ∃ fin, spawn sched K (scripts.map fun l => oneP (doLatch F) 0 l []) ⟨0, -1, [(n : Int)], [0], [], false⟩ [] = some fin ∧ LatchFin n scripts fin := by
  have hI : LInv n scripts ⟨0, -1, [(n : Int)], [0], [], false⟩ (List.replicate scripts.length ⟨[], .unborn⟩) := by
    refine ⟨List.length_replicate, by simp [downsIn], rfl, Nat.zero_le _, ?_, fun k x hk => by simp at hk, fun j g l hj hl => ?_, fun h => by cases h⟩
    · have : ∀ m : Nat, ((List.replicate m (⟨[], .unborn⟩ : LG)).map LG.downs).sum = 0 := fun m => by
        induction m with
        | zero => rfl
        | succ m ih => rw [List.replicate_succ, List.map_cons, List.sum_cons, ih]; rfl
      exact this _
    · obtain rfl : g = ⟨[], .unborn⟩ := (List.mem_replicate.1 (List.mem_of_getElem? hj)).2
      exact ⟨fun p hp => (by cases hp), l, rfl, rfl⟩
  have hd64 : ∀ l : List Cal, l.length ≤ 64 → l.length * (2 * F + 2) ≤ 76928 := fun l hl => by
    rw [hF]
    calc l.length * (2 * 600 + 2) ≤ 64 * (2 * 600 + 2) := Nat.mul_le_mul_right _ hl
      _ = 76928 := rfl
  have hpl : scripts.length * 76928 ≤ 615424 := by omega
  obtain ⟨fin, gs', q1, q2, q3, q4, q5, q6⟩ := Law.spawns (M := latchLaw n scripts) sched K 76928 (g0 := ⟨[], .unborn⟩) (scripts.map fun l => oneP (doLatch F) 0 l []) ⟨0, -1, [(n : Int)], [0], [], false⟩ [] (List.replicate scripts.length ⟨[], .unborn⟩) []
    ⟨hI, Nat.zero_le _, rfl, fun j pk g h => by simp at h, fun j pk m h => by simp at h⟩ rfl (by simp) (fun j _ hj => by
      rw [List.length_replicate] at hj
      rw [List.getElem?_replicate, if_pos hj]) (fun j p hp => by
      rw [List.getElem?_map] at hp
      obtain ⟨l, hl, rfl⟩ := Option.map_eq_some_iff.1 hp
      have hl64 := h64 l (List.mem_of_getElem? hl)
      refine ⟨Proc.dep_mono (oneP_dep (e := 2 * F) l 0 [] fun c _ k m h => doLatch_dep F c k m h) (hd64 l hl64), fun s' gs' h hst hg => ?_⟩
      have e : ([] : List Park).length + j = j := by simp
      rw [e] at hg ⊢
      have h : LInv n scripts s' gs' := h
      have hgo := h.set (g' := ⟨[], .go⟩) hg rfl (fun l' hl' => ⟨fun p hp => (by cases hp), l', rfl, trivial⟩) (fun _ => rfl)
      exact Law.W_set ⟨[], .go⟩ _ _ _ (latch_one hn h8 h64 (by omega) l [] s' _ hgo (get_set hg) (by simpa using hl) hst)) (by simp; omega)
  have q2 : LInv n scripts fin.1 gs' := q2
  rw [List.length_replicate] at q3 q4
  have hall : ∀ (j : Nat) g l pk, gs'[j]? = some g → scripts[j]? = some l → fin.2[j]? = some pk → l.zip (outOf pk) = g.pre ∧ (outOf pk).length = l.length := fun j g l pk hg hl hpk => by
    obtain ⟨out, e1, e2⟩ := q5 j pk g hpk hg
    subst e1
    obtain ⟨h1, rest, h2, h3⟩ := q2.each j g l hg hl
    cases g with
    | mk pre ph =>
      cases ph with
      | ended =>
        have e2 : Kin.ended (pre.map Prod.snd) = Kin.ended out := e2
        injection e2 with e2
        have h3 : rest = [] := h3
        have h2 : l = pre.map Prod.fst ++ rest := h2
        rw [h3, List.append_nil] at h2
        subst h2
        subst e2
        exact ⟨zip_map_map pre, by simp [outOf]⟩
      | unborn => cases e2
      | go => cases e2
      | dl u => cases e2
      | dc d u => cases e2
      | wl u => cases e2
      | wa s u => cases e2
  have hpairs : List.zipWith List.zip scripts (fin.2.map outOf) = gs'.map LG.pre := by
    refine List.ext_getElem? fun j => ?_
    rw [List.getElem?_zipWith, List.getElem?_map, List.getElem?_map]
    by_cases hj : j < scripts.length
    · have e1 : scripts[j]? = some scripts[j] := List.getElem?_eq_getElem hj
      have e2 : fin.2[j]? = some fin.2[j] := List.getElem?_eq_getElem (by omega)
      have e3 : gs'[j]? = some gs'[j] := List.getElem?_eq_getElem (by omega)
      rw [e1, e2, e3]
      show some _ = some _
      rw [(hall j _ _ _ e3 e1 e2).1]
    · rw [List.getElem?_eq_none (by omega), List.getElem?_eq_none (l := gs') (by omega)]
      rfl
  have hmem : ∀ p ∈ pairsOf scripts (fin.2.map outOf), (p.2.code = 4 → fin.1.stuck = true) ∧ (p.1.op = 2 → p.2.code = 0 → downsIn fin.1.trace = n) := fun p hp => by
    unfold pairsOf at hp
    rw [hpairs] at hp
    obtain ⟨l, hl, hp⟩ := List.mem_flatten.1 hp
    obtain ⟨g, hg, rfl⟩ := List.mem_map.1 hl
    obtain ⟨j, hj⟩ := List.mem_iff_getElem?.1 hg
    obtain ⟨l, hl, h1, _⟩ := q2.ofg hj
    exact h1 p hp
  refine ⟨fin, q1, q4, fun j l pk hl hpk => ?_, ?_, q2.le, ?_, fun p hp h => (q2.stuck ((hmem p hp).1 h)).1, fun p hp => (hmem p hp).2, q2.tr⟩
  · have hj := (List.getElem?_eq_some_iff.1 hl).1
    have e3 : gs'[j]? = some gs'[j] := List.getElem?_eq_getElem (by omega)
    exact (hall j _ l pk e3 hl hpk).2
  · simp only [List.length_nil, List.length_map, List.sum_nil] at q6
    omega
  · unfold pairsOf
    rw [hpairs, List.countP_flatten, List.map_map]
    exact q2.sum
end
end Go.Proofs.Ytoabkcalphpkhaa

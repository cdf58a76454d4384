/- Merged: GateLaw, GateLaw2, GateFin. -/
import Derived.Test.YtoabkcalphpkhaaN24
import Derived.Test.YtoabkcalphpkhaaN26
/- Gates that threads enter, leave and shut: what holds between turns, and behind all of them. No program's walk. -/
namespace Go.Proofs.Ytoabkcalphpkhaa
open Go Go.RowKit
set_option linter.unusedVariables false
set_option linter.unusedSimpArgs false

theorem i64_and1 (n : Int) : bits .and .i64 n 1 = n % 2 := by
  have h1 : (BitVec.ofInt 64 1).toNat = 2 ^ 1 - 1 := by decide
  have key : (BitVec.ofInt 64 n &&& BitVec.ofInt 64 1).toNat = (n % ((2 ^ 64 : Nat) : Int)).toNat % 2 ^ 1 := by
    rw [BitVec.toNat_and, BitVec.toNat_ofInt, h1, Nat.and_two_pow_sub_one_eq_mod]
  show IntKind.i64.wrap ((BitVec.ofInt 64 n &&& BitVec.ofInt 64 1).toNat : Nat) = n % 2
  rw [key, IntKind.wrap_i64]
  omega
theorem gShut_iff (v : Int) : gShut v = true ↔ v % 2 = 1 := by unfold gShut; rw [i64_and1]; exact beq_iff_eq

/-! ### the trace -/
def isChg (x : St5) : Bool := decide (x.op = 4) && decide (x.old ≠ x.new)
def chgIn (l : List St5) : Nat := l.countP isChg
/-- Who is in, whether it is shut. -/
def gStep (a : Int × Int) (x : St5) : Int × Int :=
  if isChg x then (if x.new - x.old = 2 then (a.1 + 1, a.2) else if x.new - x.old = -2 then (a.1 - 1, a.2) else (a.1, a.2 + 1)) else a
def gOf (l : List St5) : Int × Int := l.foldl gStep (0, 0)
def lastOf (l : List St5) : Int := l.foldl (fun a x => if x.op = 4 then x.new else a) 0
theorem gOf_snoc (l : List St5) (x : St5) : gOf (l ++ [x]) = gStep (gOf l) x := by unfold gOf; rw [List.foldl_append]; rfl
theorem lastOf_snoc (l : List St5) (x : St5) : lastOf (l ++ [x]) = if x.op = 4 then x.new else lastOf l := by unfold lastOf; rw [List.foldl_append]; rfl
theorem chgIn_snoc (l : List St5) (x : St5) : chgIn (l ++ [x]) = chgIn l + if isChg x then 1 else 0 := by
  unfold chgIn
  rw [List.countP_append]
  simp [List.countP_cons]
/-- What a step of the trace says, where so many are in ahead of it and behind it. -/
structure StG (scripts : List (List Cal)) (a b : Int × Int) (x : St5) : Prop where
  chg : isChg x = true → (x.new - x.old = 2 ∧ a.2 = 0 ∨ x.new - x.old = -2 ∨ x.new - x.old = 1) ∧ x.old = 2 * a.1 + a.2 ∧ x.new = 2 * b.1 + b.2 ∧ b.2 ≤ 1 ∧ 0 ≤ b.1
  fin : x.op = 10 → ∃ (i j : Nat) (l : List Cal) (c : Cal), x.th = i ∧ x.old = j ∧ scripts[i]? = some l ∧ l[j]? = some c ∧ (c.op = 3 → x.new = 0 → b.1 ≤ 0 ∧ b.2 = 1)
def TrG (scripts : List (List Cal)) (tr : List St5) : Prop := ∀ (k : Nat) x, tr[k]? = some x → StG scripts (gOf (tr.take k)) (gOf (tr.take (k + 1))) x
theorem TrG.snoc {scripts : List (List Cal)} {tr : List St5} {x : St5} (h : TrG scripts tr) (hx : StG scripts (gOf tr) (gOf (tr ++ [x])) x) : TrG scripts (tr ++ [x]) := by
  intro k y hk
  rw [List.getElem?_append] at hk
  split at hk
  · rename_i hlt
    rw [List.take_append_of_le_length (by omega), List.take_append_of_le_length (by omega)]
    exact h k y hk
  · rename_i hlt
    have h1 := (List.getElem?_eq_some_iff.1 hk).1
    have h2 : k = tr.length := by simp at h1; omega
    subst h2
    rw [Nat.sub_self] at hk
    cases hk
    rw [List.take_append_of_le_length (Nat.le_refl _), List.take_length, List.take_of_length_le (by simp)]
    exact hx

/-! ### the answers -/
def insOf : List (Cal × Ans) → Int
  | [] => 0
  | (c, a) :: l => (if c.op = 1 ∧ a.code = 0 then 1 else if c.op = 2 ∧ a.code = 0 then -1 else 0) + insOf l
def isFst (p : Cal × Ans) : Bool := decide (p.1.op = 3) && decide (p.2.code = 0) && decide (p.2.val = 1)
def debtOf : List (Cal × Ans) → Int
  | [] => 0
  | (c, _) :: l => (if c.op = 1 then 1 else if c.op = 2 then -1 else 0) + debtOf l
def debtC : List Cal → Int
  | [] => 0
  | c :: l => (if c.op = 1 then 1 else if c.op = 2 then -1 else 0) + debtC l
theorem insOf_append : ∀ (l m : List (Cal × Ans)), insOf (l ++ m) = insOf l + insOf m
  | [], m => by simp [insOf]
  | (c, a) :: l, m => by simp only [List.cons_append, insOf, insOf_append l m]; omega
theorem debtOf_append : ∀ (l m : List (Cal × Ans)), debtOf (l ++ m) = debtOf l + debtOf m
  | [], m => by simp [debtOf]
  | (c, a) :: l, m => by simp only [List.cons_append, debtOf, debtOf_append l m]; omega
theorem debtOf_map : ∀ (l : List (Cal × Ans)), debtOf l = debtC (l.map Prod.fst)
  | [] => rfl
  | (c, a) :: l => by simp only [debtOf, List.map_cons, debtC, debtOf_map l]
/-- Scripts in which each Enter has a Leave of its own, ahead of the next Shut. -/
def Bal (scripts : List (List Cal)) : Prop := ∀ l ∈ scripts, ∀ p r, l = p ++ r → 0 ≤ debtC p ∧ (r = [] → debtC p = 0) ∧ (∀ c r', r = c :: r' → c.op = 3 → debtC p = 0)

/-! ### a thread's data -/
inductive GP where
  | unborn
  | go
  | dl (u : Nat)
  | dc (c0 : Nat) (v : Int) (u : Nat)
  | wl (u : Nat)
  | wa (seen u : Nat)
  | ended
structure GG where
  pre : List (Cal × Ans)
  ph : GP
  cl : Bool
  w : Bool
  n : Nat
def GG.kin : GG → Kin
  | ⟨_, .wa seen _, _, _, _⟩ => .wait 0 seen
  | ⟨pre, .ended, _, false, _⟩ => .ended (pre.map Prod.snd)
  | ⟨_, .unborn, _, _, _⟩ => .unborn
  | ⟨_, .go, _, _, _⟩ => .unborn
  | _ => .want
def GG.ins (g : GG) : Int := insOf g.pre
def GG.debt (g : GG) : Int := debtOf g.pre
def GG.closed (g : GG) : Nat := g.pre.countP isFst + if g.cl then 1 else 0
def GP.quiet : GP → Bool
  | .wa .. | .ended | .go => true
  | _ => false
def GP.ok (cnt : Nat) (v S : Int) (pre : List (Cal × Ans)) (rest : List Cal) : GP → Prop
  | .unborn => pre = []
  | .go => True
  | .dl u => u ≤ cnt
  | .dc c0 v0 u => u ≤ c0 ∧ c0 ≤ cnt ∧ (c0 = cnt → v = v0)
  | .wl u => u ≤ cnt ∧ S = 1
  | .wa seen u => u ≤ seen ∧ seen ≤ cnt ∧ S = 1 ∧ (seen = cnt → v ≠ 1) ∧ ∃ c r, rest = c :: r ∧ c.op = 3
  | .ended => rest = []
structure GG.ok (cnt : Nat) (v S : Int) (l : List Cal) (g : GG) : Prop where
  n : g.n ≤ g.pre.length + (if g.w then 1 else 0)
  cl : g.cl = true → g.w = true ∨ ∃ p ∈ g.pre, p.2.code = 4
  ph : ∃ rest, l = g.pre.map Prod.fst ++ rest ∧ g.ph.ok cnt v S g.pre rest

structure GInv (scripts : List (List Cal)) (s : Sys) (gs : List GG) : Prop where
  len : gs.length = scripts.length
  vals : s.vals = [2 * (gOf s.trace).1 + (gOf s.trace).2]
  chg : s.chg = [(chgIn s.trace : Int)]
  i0 : 0 ≤ (gOf s.trace).1
  s01 : (gOf s.trace).2 = 0 ∨ (gOf s.trace).2 = 1
  cnt : (gs.map GG.n).sum = chgIn s.trace
  ins : (gs.map GG.ins).sum = (gOf s.trace).1
  cls : ((gs.map GG.closed).sum : Int) = (gOf s.trace).2
  tr : TrG scripts s.trace
  last : lastOf s.trace = 2 * (gOf s.trace).1 + (gOf s.trace).2
  each : ∀ (i : Nat) g l, gs[i]? = some g → scripts[i]? = some l → g.ok (chgIn s.trace) (2 * (gOf s.trace).1 + (gOf s.trace).2) (gOf s.trace).2 l
  stuck : s.stuck = true → ∀ g ∈ gs, g.ph.quiet = true
  bal : Bal scripts → s.stuck = false ∧ (gOf s.trace).1 ≤ (gs.map GG.debt).sum

theorem sum_map_setI {α : Type} (f : α → Int) : ∀ (l : List α) (i : Nat) (a b : α), l[i]? = some a → ((l.set i b).map f).sum + f a = (l.map f).sum + f b
  | [], i, a, b, h => by cases h
  | x :: l, 0, a, b, h => by
    obtain rfl := Option.some.inj h
    simp only [List.set_cons_zero, List.map_cons, List.sum_cons]
    omega
  | x :: l, i + 1, a, b, h => by
    have := sum_map_setI f l i a b h
    simp only [List.set_cons_succ, List.map_cons, List.sum_cons]
    omega
theorem sum_nonneg {α : Type} (f : α → Int) : ∀ (l : List α), (∀ a ∈ l, 0 ≤ f a) → 0 ≤ (l.map f).sum
  | [], _ => Int.le_refl _
  | x :: l, h => by
    have h1 := h x List.mem_cons_self
    have h2 := sum_nonneg f l fun a ha => h a (List.mem_cons_of_mem _ ha)
    simp only [List.map_cons, List.sum_cons]
    omega
theorem sum_le_mul {α : Type} (f : α → Nat) (B : Nat) : ∀ (l : List α), (∀ a ∈ l, f a ≤ B) → (l.map f).sum ≤ l.length * B
  | [], _ => by simp
  | x :: l, h => by
    have h1 := h x List.mem_cons_self
    have h2 := sum_le_mul f B l fun a ha => h a (List.mem_cons_of_mem _ ha)
    have h3 : (l.length + 1) * B = l.length * B + B := Nat.succ_mul _ _
    simp only [List.map_cons, List.sum_cons, List.length_cons]
    omega

section
variable {scripts : List (List Cal)} {s : Sys} {gs : List GG} {i : Nat} {pre : List (Cal × Ans)} {c : Cal} {rest : List Cal}
theorem GInv.ofg (h : GInv scripts s gs) {g : GG} (hg : gs[i]? = some g) : ∃ l, scripts[i]? = some l ∧ g.ok (chgIn s.trace) (2 * (gOf s.trace).1 + (gOf s.trace).2) (gOf s.trace).2 l := by
  have hlt := (List.getElem?_eq_some_iff.1 hg).1
  have hlt' : i < scripts.length := by have := h.len; omega
  have hl : scripts[i]? = some scripts[i] := List.getElem?_eq_getElem hlt'
  exact ⟨_, hl, h.each i g _ hg hl⟩
theorem GInv.calm (h : GInv scripts s gs) {g : GG} (hg : gs[i]? = some g) (hq : g.ph.quiet = false) : s.stuck = false := by
  cases hs : s.stuck with
  | false => rfl
  | true =>
    have := h.stuck hs g (List.mem_of_getElem? hg)
    rw [hq] at this; cases this
theorem GInv.val (h : GInv scripts s gs) : s.vals.getD 0 0 = 2 * (gOf s.trace).1 + (gOf s.trace).2 := by rw [h.vals]; rfl
theorem GInv.few (h : GInv scripts s gs) (h8 : scripts.length ≤ 8) (h64 : ∀ l ∈ scripts, l.length ≤ 64) : chgIn s.trace ≤ 520 := by
  have h1 := sum_le_mul GG.n 65 gs fun g hg => by
    obtain ⟨j, hj⟩ := List.mem_iff_getElem?.1 hg
    obtain ⟨l, hl, h2⟩ := h.ofg hj
    obtain ⟨rest, h3, _⟩ := h2.ph
    have h5 := h64 l (List.mem_of_getElem? hl)
    rw [h3, List.length_append, List.length_map] at h5
    have := h2.n
    split at this <;> omega
  have := h.cnt
  have := h.len
  omega
theorem debt_nonneg (h : GInv scripts s gs) (hb : Bal scripts) {g : GG} (hg : g ∈ gs) : 0 ≤ g.debt := by
  obtain ⟨j, hj⟩ := List.mem_iff_getElem?.1 hg
  obtain ⟨l, hl, h2⟩ := h.ofg hj
  obtain ⟨rest, h3, _⟩ := h2.ph
  have := (hb l (List.mem_of_getElem? hl) _ _ h3).1
  unfold GG.debt
  rw [debtOf_map]
  exact this

theorem GInv.noted (h : GInv scripts s gs) {x : St5} (hc : isChg x = false) (hx : x.op = 4 → x.new = 2 * (gOf s.trace).1 + (gOf s.trace).2)
    (h10 : x.op = 10 → ∃ (i j : Nat) (l : List Cal) (c : Cal), x.th = i ∧ x.old = j ∧ scripts[i]? = some l ∧ l[j]? = some c ∧ (c.op = 3 → x.new = 0 → (gOf s.trace).1 ≤ 0 ∧ (gOf s.trace).2 = 1)) : GInv scripts (s.noted x) gs := by
  have e1 : gOf (s.trace ++ [x]) = gOf s.trace := by rw [gOf_snoc]; unfold gStep; rw [hc]; rfl
  have e2 : chgIn (s.trace ++ [x]) = chgIn s.trace := by rw [chgIn_snoc, hc]; rfl
  have e3 : lastOf (s.trace ++ [x]) = 2 * (gOf s.trace).1 + (gOf s.trace).2 := by
    rw [lastOf_snoc]
    split
    · rename_i e; exact hx e
    · exact h.last
  have et : (s.noted x).trace = s.trace ++ [x] := rfl
  refine ⟨h.len, ?_, ?_, ?_, ?_, ?_, ?_, ?_, ?_, ?_, ?_, h.stuck, ?_⟩ <;> (try rw [et]) <;> (try rw [e1]) <;> (try rw [e2])
  · exact h.vals
  · exact h.chg
  · exact h.i0
  · exact h.s01
  · exact h.cnt
  · exact h.ins
  · exact h.cls
  · exact h.tr.snoc ⟨fun e => (by rw [hc] at e; cases e), fun e => (by rw [e1]; exact h10 e)⟩
  · exact e3
  · exact h.each
  · exact h.bal
theorem GInv.set (h : GInv scripts s gs) {g g' : GG} (hg : gs[i]? = some g) (hn : g'.n = g.n) (hi : g'.ins = g.ins) (hcl : g'.closed = g.closed) (hok : ∀ l, scripts[i]? = some l → g'.ok (chgIn s.trace) (2 * (gOf s.trace).1 + (gOf s.trace).2) (gOf s.trace).2 l)
    (hq : s.stuck = true → g'.ph.quiet = true) (hb : Bal scripts → (gOf s.trace).1 ≤ ((gs.set i g').map GG.debt).sum) : GInv scripts s (gs.set i g') := by
  refine ⟨by rw [List.length_set]; exact h.len, h.vals, h.chg, h.i0, h.s01, ?_, ?_, ?_, h.tr, h.last, fun j g2 l hj hl => ?_, fun hs g2 hg2 => ?_, fun hb' => ⟨(h.bal hb').1, hb hb'⟩⟩
  · have := sum_map_set GG.n gs i g g' hg
    have := h.cnt
    omega
  · have := sum_map_setI GG.ins gs i g g' hg
    have := h.ins
    omega
  · have := sum_map_set GG.closed gs i g g' hg
    have := h.cls
    omega
  · rw [List.getElem?_set] at hj
    split at hj
    · rename_i e
      subst e
      split at hj
      · cases hj; exact hok l hl
      · cases hj
    · exact h.each j g2 l hj hl
  · rcases List.mem_or_eq_of_mem_set hg2 with h5 | h5
    · exact h.stuck hs g2 h5
    · rw [h5]; exact hq hs
/-- The debts, where one thread's stays or grows. -/
theorem GInv.debts (h : GInv scripts s gs) {g g' : GG} (hg : gs[i]? = some g) (hd : g.debt ≤ g'.debt) : Bal scripts → (gOf s.trace).1 ≤ ((gs.set i g').map GG.debt).sum := fun hb => by
  have := sum_map_setI GG.debt gs i g g' hg
  have := (h.bal hb).2
  omega
/-- A change that is done. -/
theorem GInv.cas (h : GInv scripts s gs) {g g' : GG} (hg : gs[i]? = some g) {d1 d2 : Int} (hd : d1 = 1 ∧ d2 = 0 ∧ (gOf s.trace).2 = 0 ∨ d1 = -1 ∧ d2 = 0 ∧ 1 ≤ (gOf s.trace).1 ∨ d1 = 0 ∧ d2 = 1 ∧ (gOf s.trace).2 = 0) {v : Int} (hv : v = s.vals.getD 0 0 + (2 * d1 + d2)) (hst : s.stuck = false)
    (hn : g'.n = g.n + 1) (hi : g'.ins = g.ins + d1) (hcl : (g'.closed : Int) = g.closed + d2) (hok : ∀ l, scripts[i]? = some l → g'.ok (chgIn s.trace + 1) (2 * ((gOf s.trace).1 + d1) + ((gOf s.trace).2 + d2)) ((gOf s.trace).2 + d2) l)
    (hb : Bal scripts → g.debt + d1 ≤ g'.debt) : GInv scripts ((s.put 0 v).did i 0 4 (s.vals.getD 0 0) v) (gs.set i g') := by
  have hne : s.vals.getD 0 0 ≠ v := by rcases hd with h | h | h <;> omega
  have hc : isChg ⟨(i : Int), (0 : Nat), 4, s.vals.getD 0 0, v⟩ = true := by
    unfold isChg
    rw [decide_eq_true (show (4 : Int) = 4 from rfl), decide_eq_true hne]
    rfl
  have et : ((s.put 0 v).did i 0 4 (s.vals.getD 0 0) v).trace = s.trace ++ [⟨i, (0 : Nat), 4, s.vals.getD 0 0, v⟩] := rfl
  have e1 : gOf (s.trace ++ [⟨i, (0 : Nat), 4, s.vals.getD 0 0, v⟩]) = ((gOf s.trace).1 + d1, (gOf s.trace).2 + d2) := by
    rw [gOf_snoc]
    unfold gStep
    rw [if_pos hc]
    dsimp only
    rcases hd with ⟨h1, h2, _⟩ | ⟨h1, h2, _⟩ | ⟨h1, h2, _⟩
    · rw [if_pos (by omega), h1, h2]; simp
    · rw [if_neg (by omega), if_pos (by omega), h1, h2]; simp; omega
    · rw [if_neg (by omega), if_neg (by omega), h1, h2]; simp
  have e2 : chgIn (s.trace ++ [⟨i, (0 : Nat), 4, s.vals.getD 0 0, v⟩]) = chgIn s.trace + 1 := by rw [chgIn_snoc, hc]; rfl
  have e3 : lastOf (s.trace ++ [⟨i, (0 : Nat), 4, s.vals.getD 0 0, v⟩]) = v := by rw [lastOf_snoc]; rfl
  have hval := h.val
  have hv' : v = 2 * ((gOf s.trace).1 + d1) + ((gOf s.trace).2 + d2) := by omega
  have h01 := h.s01
  have hi0 := h.i0
  refine ⟨by rw [List.length_set]; exact h.len, ?_, ?_, ?_, ?_, ?_, ?_, ?_, ?_, ?_, ?_, ?_, ?_⟩
  · rw [et, e1]
    show s.vals.set 0 v = _
    rw [h.vals]
    simp only [List.set_cons_zero]
    rw [hv']
  · rw [et, e2]
    show (if s.vals.getD 0 0 = v then s.chg else s.chg.set 0 (s.chg.getD 0 0 + 1)) = _
    rw [if_neg hne, h.chg]
    simp
  · rw [et, e1]
    show 0 ≤ (gOf s.trace).1 + d1
    rcases hd with h | h | h <;> omega
  · rw [et, e1]
    show (gOf s.trace).2 + d2 = 0 ∨ (gOf s.trace).2 + d2 = 1
    rcases hd with h | h | h <;> omega
  · rw [et, e2]
    have := sum_map_set GG.n gs i g g' hg
    have := h.cnt
    omega
  · rw [et, e1]
    have := sum_map_setI GG.ins gs i g g' hg
    have := h.ins
    show _ = (gOf s.trace).1 + d1
    omega
  · rw [et, e1]
    have := sum_map_set GG.closed gs i g g' hg
    have := h.cls
    show _ = (gOf s.trace).2 + d2
    omega
  · rw [et]
    refine h.tr.snoc ⟨fun _ => ?_, fun e => by cases e⟩
    rw [e1]
    show (v - s.vals.getD 0 0 = 2 ∧ _ ∨ v - s.vals.getD 0 0 = -2 ∨ v - s.vals.getD 0 0 = 1) ∧ s.vals.getD 0 0 = _ ∧ v = 2 * ((gOf s.trace).1 + d1) + ((gOf s.trace).2 + d2) ∧ (gOf s.trace).2 + d2 ≤ 1 ∧ 0 ≤ (gOf s.trace).1 + d1
    rcases hd with h | h | h <;> omega
  · rw [et, e1, e3]
    exact hv'
  · intro j g2 l hj hl
    rw [et, e1, e2]
    show g2.ok (chgIn s.trace + 1) (2 * ((gOf s.trace).1 + d1) + ((gOf s.trace).2 + d2)) ((gOf s.trace).2 + d2) l
    rw [List.getElem?_set] at hj
    split at hj
    · rename_i e
      subst e
      split at hj
      · cases hj; exact hok l hl
      · cases hj
    · obtain ⟨k1, k2, rest, k3, k4⟩ := h.each j g2 l hj hl
      refine ⟨k1, k2, rest, k3, ?_⟩
      cases g2 with
      | mk pre ph cl w n =>
        cases ph with
        | unborn => exact k4
        | go => trivial
        | dl u => exact Nat.le_succ_of_le k4
        | dc c0 v0 u => exact ⟨k4.1, Nat.le_succ_of_le k4.2.1, fun e => by have := k4.2.1; omega⟩
        | wl u => exact ⟨Nat.le_succ_of_le k4.1, by have := k4.2; rcases hd with h | h | h <;> omega⟩
        | wa seen u =>
          obtain ⟨m1, m2, m3, m4, m5⟩ := k4
          exact ⟨m1, Nat.le_succ_of_le m2, by rcases hd with h | h | h <;> omega, fun e => by omega, m5⟩
        | ended => exact k4
  · intro hs
    rw [show ((s.put 0 v).did i 0 4 (s.vals.getD 0 0) v).stuck = s.stuck from rfl, hst] at hs
    cases hs
  · intro hb'
    refine ⟨hst, ?_⟩
    rw [et, e1]
    have h1 := sum_map_setI GG.debt gs i g g' hg
    have h2 := (h.bal hb').2
    have h3 := hb hb'
    show (gOf s.trace).1 + d1 ≤ _
    omega
end

/-- The invariant, as a law of threads. -/
def gateLaw (scripts : List (List Cal)) : Law GG where
  Inv := GInv scripts
  kin := GG.kin
  pick _ _ h := ⟨h.len, h.vals, h.chg, h.i0, h.s01, h.cnt, h.ins, h.cls, h.tr, h.last, h.each, h.stuck, h.bal⟩
  jam {s gs} h hs hall hex := by
    have hph : ∀ g ∈ gs, g.ph.quiet = true := fun g hg => by
      rcases hall g hg with ⟨out, h1⟩ | ⟨c, h1⟩
      · cases g with
        | mk pre ph cl w n => cases ph <;> first | rfl | cases h1
      · cases g with
        | mk pre ph cl w n => cases ph <;> first | rfl | cases h1
    have hn := h.noted (x := ⟨-1, -1, 7, 0, 0⟩) rfl (fun e => by cases e) (fun e => by cases e)
    refine ⟨hn.len, hn.vals, hn.chg, hn.i0, hn.s01, hn.cnt, hn.ins, hn.cls, hn.tr, hn.last, hn.each, fun _ => hph, fun hb => ?_⟩
    exfalso
    have hz : ∀ g ∈ gs, g.debt = 0 := fun g hg => by
      obtain ⟨j, hj⟩ := List.mem_iff_getElem?.1 hg
      obtain ⟨l, hl, h2⟩ := h.ofg hj
      obtain ⟨rest, h3, h4⟩ := h2.ph
      have hbl := hb l (List.mem_of_getElem? hl) _ _ h3
      unfold GG.debt
      rw [debtOf_map]
      rcases hall g hg with ⟨out, h1⟩ | ⟨c, h1⟩
      · cases g with
        | mk pre ph cl w n =>
          cases ph with
          | ended => exact hbl.2.1 h4
          | unborn => cases h1
          | go => cases h1
          | dl u => cases h1
          | dc c0 v u => cases h1
          | wl u => cases h1
          | wa se u => cases h1
      · cases g with
        | mk pre ph cl w n =>
          cases ph with
          | wa se u =>
            obtain ⟨_, _, _, _, c', r', e1, e2⟩ := h4
            exact hbl.2.2 c' r' e1 e2
          | unborn => cases h1
          | go => cases h1
          | dl u => cases h1
          | dc c0 v u => cases h1
          | wl u => cases h1
          | ended => cases w <;> cases h1
    have hsum : (gs.map GG.debt).sum = 0 := by
      have : ∀ l : List GG, (∀ g ∈ l, g.debt = 0) → (l.map GG.debt).sum = 0 := fun l => by
        induction l with
        | nil => intro _; rfl
        | cons g l ih =>
          intro hl
          rw [List.map_cons, List.sum_cons, hl g List.mem_cons_self, ih fun g hg => hl g (List.mem_cons_of_mem _ hg)]
          rfl
      exact this gs hz
    have hI := (h.bal hb).2
    have hi0 := h.i0
    obtain ⟨g, hg, c, h1⟩ := hex
    obtain ⟨j, hj⟩ := List.mem_iff_getElem?.1 hg
    obtain ⟨l, hl, h2⟩ := h.ofg hj
    obtain ⟨rest, h3, h4⟩ := h2.ph
    cases g with
    | mk pre ph cl w n =>
      cases ph with
      | wa se u =>
        simp only [GG.kin, Kin.wait.injEq] at h1
        obtain ⟨rfl, h1⟩ := h1
        rw [h.chg] at h1
        have h1 : (se : Int) = chgIn s.trace := h1
        obtain ⟨_, _, m3, m4, _⟩ := h4
        exact m4 (by omega) (by omega)
      | unborn => cases h1
      | go => cases h1
      | dl u => cases h1
      | dc c0 v u => cases h1
      | wl u => cases h1
      | ended => cases w <;> cases h1
end Go.Proofs.Ytoabkcalphpkhaa

/- Gates: each thread keeps the invariant; what holds behind all turns. -/
namespace Go.Proofs.Ytoabkcalphpkhaa
open Go Go.RowKit
set_option linter.unusedVariables false
set_option linter.unusedSimpArgs false

theorem wrap64_id {v : Int} (h1 : -9223372036854775808 ≤ v) (h2 : v ≤ 9223372036854775807) : wrap64 v = v := by unfold wrap64; omega
theorem isChg_same (i c op v : Int) : isChg ⟨i, c, op, v, v⟩ = false := by unfold isChg; simp
theorem isChg_op (i c op a b : Int) (h : op ≠ 4) : isChg ⟨i, c, op, a, b⟩ = false := by unfold isChg; simp [h]
theorem gOf_noted {s : Sys} {x : St5} (h : isChg x = false) : gOf (s.noted x).trace = gOf s.trace ∧ chgIn (s.noted x).trace = chgIn s.trace := by
  show gOf (s.trace ++ [x]) = _ ∧ chgIn (s.trace ++ [x]) = _
  rw [gOf_snoc, chgIn_snoc]
  unfold gStep
  rw [h]
  exact ⟨rfl, rfl⟩
section
variable {scripts : List (List Cal)} {i : Nat} {pre : List (Cal × Ans)} {c : Cal} {rest : List Cal} {cl w : Bool} {n : Nat}
/-- How many are in is little. -/
theorem GInv.small {s : Sys} {gs : List GG} (h : GInv scripts s gs) (h8 : scripts.length ≤ 8) (h64 : ∀ l ∈ scripts, l.length ≤ 64) : (gOf s.trace).1 ≤ 520 := by
  have h1 := h.few h8 h64
  have h2 : ∀ l : List St5, (gOf l).1 ≤ chgIn l := fun l => by
    unfold gOf
    have : ∀ (l : List St5) (a : Int × Int), (l.foldl gStep a).1 ≤ a.1 + chgIn l := fun l => by
      induction l with
      | nil => intro a; simp [chgIn]
      | cons x l ih =>
        intro a
        have h3 := ih (gStep a x)
        have h4 : (gStep a x).1 ≤ a.1 + (if isChg x then 1 else 0) := by
          unfold gStep
          split
          · split
            · simp
            · split <;> simp <;> omega
          · simp
        have h5 : (chgIn (x :: l) : Int) = chgIn l + (if isChg x then 1 else 0) := by
          unfold chgIn
          rw [List.countP_cons]
          split <;> simp
        simp only [List.foldl_cons]
        omega
    have := this l (0, 0)
    simpa using this
  have := h2 s.trace
  omega
/-- The own data, anew. -/
theorem GInv.own {s : Sys} {gs : List GG} (h : GInv scripts s gs) {g : GG} (hg : gs[i]? = some g) {ph : GP} (hph : ∀ rest, scripts[i]? = some (g.pre.map Prod.fst ++ rest) → ph.ok (chgIn s.trace) (2 * (gOf s.trace).1 + (gOf s.trace).2) (gOf s.trace).2 g.pre rest) (hq : s.stuck = true → ph.quiet = true) :
    GInv scripts s (gs.set i ⟨g.pre, ph, g.cl, g.w, g.n⟩) := by
  refine h.set hg rfl rfl rfl (fun l hl => ?_) hq (h.debts hg (Int.le_refl _))
  obtain ⟨k1, k2, rest, k3, k4⟩ := h.each i g l hg hl
  exact ⟨k1, k2, rest, k3, hph rest (by rw [hl, k3])⟩

/-- Load; refuse, or Cas; again. -/
theorem gate_cas (h8 : scripts.length ≤ 8) (h64 : ∀ l ∈ scripts, l.length ≤ 64) {no : Int → Bool} {up : Int → Int} {K : Bool → Proc} (hup : ∀ v, v ≠ up v)
    (hno : ∀ s gs, GInv scripts s gs → gs[i]? = some ⟨pre, .go, cl, w, n⟩ → s.stuck = false → no (2 * (gOf s.trace).1 + (gOf s.trace).2) = true → (gateLaw scripts).W i (K false) s gs)
    (hyes : ∀ s gs, GInv scripts s gs → gs[i]? = some ⟨pre, .go, cl, w, n⟩ → s.stuck = false → no (s.vals.getD 0 0) = false → (gateLaw scripts).W i (K true) ((s.put 0 (up (s.vals.getD 0 0))).did i 0 4 (s.vals.getD 0 0) (up (s.vals.getD 0 0))) gs) :
    ∀ (f u : Nat) s gs, 520 < f + u → GInv scripts s gs → gs[i]? = some ⟨pre, .go, cl, w, n⟩ → u ≤ chgIn s.trace → s.stuck = false → (gateLaw scripts).W i (casP 0 no up K f) s gs
  | 0, u, s, gs, hf, h, hg, hu, hst => by have := h.few h8 h64; omega
  | f + 1, u, s, gs, hf, h, hg, hu, hst => by
    refine ⟨⟨pre, .dl u, cl, w, n⟩, rfl, h.own hg (fun _ _ => hu) (fun hs => by rw [hst] at hs; cases hs), fun s1 gs1 h1 g1 => ?_⟩
    have h1 : GInv scripts s1 gs1 := h1
    have st1 := h1.calm g1 rfl
    obtain ⟨_, _, _, _, _, _, hu1⟩ := h1.ofg g1
    have hu1 : u ≤ chgIn s1.trace := hu1
    have hv := h1.val
    rw [show (id (s1.vals.getD 0 0) : Int) = s1.vals.getD 0 0 from rfl, look_noted]
    have hch : isChg ⟨(i : Int), 0, 1, s1.vals.getD 0 0, s1.vals.getD 0 0⟩ = false := isChg_same ..
    have h2 : GInv scripts (s1.noted ⟨i, 0, 1, s1.vals.getD 0 0, s1.vals.getD 0 0⟩) gs1 := h1.noted hch (fun e => by cases e) (fun e => by cases e)
    obtain ⟨e1, e2⟩ := gOf_noted (s := s1) hch
    have st2 : (s1.noted ⟨i, 0, 1, s1.vals.getD 0 0, s1.vals.getD 0 0⟩).stuck = false := st1
    generalize s1.noted ⟨i, 0, 1, s1.vals.getD 0 0, s1.vals.getD 0 0⟩ = s2 at h2 e1 e2 st2 ⊢
    generalize s1.vals.getD 0 0 = v at hv ⊢
    dsimp only
    by_cases h0 : no v = true
    · rw [if_pos h0]
      refine Law.W_set ⟨pre, .go, cl, w, n⟩ _ _ _ (hno s2 _ (h2.own (ph := .go) g1 (fun _ _ => trivial) (fun hs => by rw [st2] at hs; cases hs)) (get_set g1) st2 ?_)
      rw [e1, ← hv]
      exact h0
    · rw [if_neg h0]
      refine ⟨⟨pre, .dc (chgIn s1.trace) v u, cl, w, n⟩, rfl, h2.own g1 (fun _ _ => ⟨hu1, by rw [e2]; exact Nat.le_refl _, fun _ => by rw [e1]; exact hv.symm⟩) (fun hs => by rw [st2] at hs; cases hs), fun s3 gs3 h3 g3 => ?_⟩
      have h3 : GInv scripts s3 gs3 := h3
      have st3 := h3.calm g3 rfl
      obtain ⟨_, _, _, _, _, _, _, hd3, hd4⟩ := h3.ofg g3
      have hv3 := h3.val
      dsimp only
      by_cases e : s3.vals.getD 0 0 = v
      · rw [if_pos e, if_pos e]
        have hgo : GInv scripts s3 (gs3.set i ⟨pre, .go, cl, w, n⟩) := h3.own (ph := .go) g3 (fun _ _ => trivial) (fun _ => rfl)
        have := hyes s3 _ hgo (get_set g3) st3 (by rw [e]; exact Bool.eq_false_iff.2 h0)
        rw [e] at this ⊢
        exact Law.W_set _ _ _ _ this
      · rw [if_neg e, if_neg e, look_noted]
        have hch3 : isChg ⟨(i : Int), 0, 4, s3.vals.getD 0 0, s3.vals.getD 0 0⟩ = false := isChg_same ..
        have h4 : GInv scripts (s3.noted ⟨i, 0, 4, s3.vals.getD 0 0, s3.vals.getD 0 0⟩) gs3 := h3.noted hch3 (fun _ => hv3) (fun e => by cases e)
        obtain ⟨e3, e4⟩ := gOf_noted (s := s3) hch3
        have st4 : (s3.noted ⟨i, 0, 4, s3.vals.getD 0 0, s3.vals.getD 0 0⟩).stuck = false := st3
        refine Law.W_set ⟨pre, .go, cl, w, n⟩ _ _ _ (gate_cas h8 h64 hup hno hyes f (u + 1) _ _ (by omega) (h4.own (ph := .go) g3 (fun _ _ => trivial) (fun _ => rfl)) (get_set g3) ?_ st4)
        rw [e4]
        have : chgIn s1.trace ≠ chgIn s3.trace := fun e' => e (by rw [hv3, hd4 e'])
        omega
/-- Waiting till nobody is in. -/
theorem gate_wait (h8 : scripts.length ≤ 8) (h64 : ∀ l ∈ scripts, l.length ≤ 64) {K : Bool → Proc} (hc : c.op = 3) (hs : scripts[i]? = some (pre.map Prod.fst ++ c :: rest))
    (hK : ∀ (b : Bool) s gs, GInv scripts s gs → gs[i]? = some ⟨pre, .go, cl, w, n⟩ → (b = true → s.stuck = false ∧ (gOf s.trace).1 = 0 ∧ (gOf s.trace).2 = 1) → (b = false → s.stuck = true) → (gateLaw scripts).W i (K b) s gs) :
    ∀ (f u : Nat) s gs, 520 < f + u → GInv scripts s gs → gs[i]? = some ⟨pre, .go, cl, w, n⟩ → u ≤ chgIn s.trace → (gOf s.trace).2 = 1 → s.stuck = false → (gateLaw scripts).W i (untilP 0 gEnd K f) s gs
  | 0, u, s, gs, hf, h, hg, hu, hS, hst => by have := h.few h8 h64; omega
  | f + 1, u, s, gs, hf, h, hg, hu, hS, hst => by
    refine ⟨⟨pre, .wl u, cl, w, n⟩, rfl, h.own hg (fun _ _ => ⟨hu, hS⟩) (fun hs => by rw [hst] at hs; cases hs), fun s1 gs1 h1 g1 => ?_⟩
    have h1 : GInv scripts s1 gs1 := h1
    have st1 := h1.calm g1 rfl
    obtain ⟨_, _, _, _, _, _, hu1, hS1⟩ := h1.ofg g1
    have hu1 : u ≤ chgIn s1.trace := hu1
    have hv := h1.val
    rw [show (id (s1.vals.getD 0 0) : Int) = s1.vals.getD 0 0 from rfl, look_noted]
    have hch : isChg ⟨(i : Int), 0, 1, s1.vals.getD 0 0, s1.vals.getD 0 0⟩ = false := isChg_same ..
    have h2 : GInv scripts (s1.noted ⟨i, 0, 1, s1.vals.getD 0 0, s1.vals.getD 0 0⟩) gs1 := h1.noted hch (fun e => by cases e) (fun e => by cases e)
    obtain ⟨e1, e2⟩ := gOf_noted (s := s1) hch
    have st2 : (s1.noted ⟨i, 0, 1, s1.vals.getD 0 0, s1.vals.getD 0 0⟩).stuck = false := st1
    generalize s1.noted ⟨i, 0, 1, s1.vals.getD 0 0, s1.vals.getD 0 0⟩ = s2 at h2 e1 e2 st2 ⊢
    generalize s1.vals.getD 0 0 = v at hv ⊢
    dsimp only
    by_cases h0 : v = 1
    · rw [if_pos (show gEnd v = true from beq_iff_eq.2 h0)]
      refine Law.W_set ⟨pre, .go, cl, w, n⟩ _ _ _ (hK true s2 _ (h2.own (ph := .go) g1 (fun _ _ => trivial) (fun hs => by rw [st2] at hs; cases hs)) (get_set g1) (fun _ => ⟨st2, ?_, ?_⟩) (fun e => by cases e))
      · rw [e1]; omega
      · rw [e1]; exact hS1
    · rw [if_neg (show ¬ gEnd v = true from fun e => h0 (beq_iff_eq.1 e))]
      show (if s2.stuck then _ else _)
      rw [st2]
      simp only [Bool.false_eq_true, if_false]
      have hchg : s2.chg.getD 0 0 = (chgIn s1.trace : Int) := by rw [h2.chg, e2]; rfl
      rw [hchg]
      refine ⟨⟨pre, .wa (chgIn s1.trace) u, cl, w, n⟩, rfl, h2.own g1 (fun rest' hr => ⟨hu1, by rw [e2]; exact Nat.le_refl _, by rw [e1]; exact hS1, fun _ => by rw [e1]; omega, c, rest, ?_, hc⟩) (fun hs => by rw [st2] at hs; cases hs), fun s3 gs3 h3 g3 => ?_⟩
      · rw [hs] at hr
        exact (List.append_cancel_left (Option.some.inj hr)).symm
      have h3 : GInv scripts s3 gs3 := h3
      obtain ⟨_, _, _, _, _, _, _, hd3, hS3, _⟩ := h3.ofg g3
      cases st3 : s3.stuck with
      | true =>
        simp only [if_true]
        exact Law.W_set ⟨pre, .go, cl, w, n⟩ _ _ _ (hK false s3 _ (h3.own (ph := .go) g3 (fun _ _ => trivial) (fun _ => rfl)) (get_set g3) (fun e => by cases e) (fun _ => st3))
      | false =>
        simp only [Bool.false_eq_true, if_false, if_true]
        intro hne
        have hc3 : s3.chg.getD 0 0 = (chgIn s3.trace : Int) := by rw [h3.chg]; rfl
        rw [hc3] at hne
        have hch3 : isChg ⟨(i : Int), (0 : Nat), 6, 0, 0⟩ = false := isChg_same ..
        have h4 : GInv scripts (s3.noted ⟨i, (0 : Nat), 6, 0, 0⟩) gs3 := h3.noted hch3 (fun e => by cases e) (fun e => by cases e)
        obtain ⟨e3, e4⟩ := gOf_noted (s := s3) hch3
        have st4 : (s3.noted ⟨i, (0 : Nat), 6, 0, 0⟩).stuck = false := st3
        refine Law.W_set ⟨pre, .go, cl, w, n⟩ _ _ _ (gate_wait h8 h64 hc hs hK f (u + 1) _ _ (by omega) (h4.own (ph := .go) g3 (fun _ _ => trivial) (fun _ => rfl)) (get_set g3) ?_ ?_ st4)
        · rw [e4]; omega
        · rw [e3]; exact hS3

theorem insOf_snoc (l : List (Cal × Ans)) (c : Cal) (a : Ans) : insOf (l ++ [(c, a)]) = insOf l + (if c.op = 1 ∧ a.code = 0 then 1 else if c.op = 2 ∧ a.code = 0 then -1 else 0) := by rw [insOf_append]; simp [insOf]
theorem debtOf_snoc (l : List (Cal × Ans)) (c : Cal) (a : Ans) : debtOf (l ++ [(c, a)]) = debtOf l + (if c.op = 1 then 1 else if c.op = 2 then -1 else 0) := by rw [debtOf_append]; simp [debtOf]
theorem fst_snoc (l : List (Cal × Ans)) (x : Cal × Ans) : (l ++ [x]).countP isFst = l.countP isFst + if isFst x then 1 else 0 := by rw [List.countP_append]; simp [List.countP_cons]
theorem pad_ins : ∀ rest : List Cal, insOf (rest.map fun c => (c, (⟨4, 0⟩ : Ans))) = 0
  | [] => rfl
  | c :: rest => by simp [insOf, pad_ins rest]
theorem pad_fst : ∀ rest : List Cal, (rest.map fun c => (c, (⟨4, 0⟩ : Ans))).countP isFst = 0 := fun rest => by
  rw [List.countP_eq_zero]
  intro p hp
  obtain ⟨c', _, rfl⟩ := List.mem_map.1 hp
  simp [isFst]

/-- A thread's script. -/
theorem gate_one (h8 : scripts.length ≤ 8) (h64 : ∀ l ∈ scripts, l.length ≤ 64) {F : Nat} (hF : 520 < F) :
    ∀ (rest : List Cal) (pre : List (Cal × Ans)) (cl : Bool) (n : Nat) s gs, GInv scripts s gs → gs[i]? = some ⟨pre, .go, cl, false, n⟩ → scripts[i]? = some (pre.map Prod.fst ++ rest) → s.stuck = false → (gateLaw scripts).W i (oneP (doGate F) pre.length rest (pre.map Prod.snd)) s gs
  | [], pre, cl, n, s, gs, h, hg, hs, hst => by
    refine ⟨⟨pre, .ended, cl, false, n⟩, rfl, h.own hg (fun rest hr => ?_) (fun hs => rfl)⟩
    rw [hs] at hr
    exact (List.append_cancel_left (Option.some.inj hr)).symm
  | c :: rest, pre, cl, n, s, gs, h, hg, hs, hst => by
    have hsplit : ∀ l, scripts[i]? = some l → l = pre.map Prod.fst ++ c :: rest := fun l hl => by rw [hs] at hl; exact (Option.some.inj hl).symm
    -- behind the call's answer
    have hK : ∀ (a : Ans) (cl : Bool) (n : Nat) s gs, GInv scripts s gs → gs[i]? = some ⟨pre ++ [(c, a)], .go, cl, false, n⟩ → (a.code = 4 → s.stuck = true) → (a.code ≠ 4 → s.stuck = false) → (c.op = 3 → a.code = 0 → (gOf s.trace).1 ≤ 0 ∧ (gOf s.trace).2 = 1) →
        (gateLaw scripts).W i (.note 10 pre.length a.code (if a.code = 4 then .ret (pre.map Prod.snd ++ a :: rest.map fun _ => ⟨4, 0⟩) else oneP (doGate F) (pre.length + 1) rest (pre.map Prod.snd ++ [a]))) s gs := by
      intro a cl n s gs h hg ha1 ha2 ha3
      have hch : isChg ⟨(i : Int), -1, 10, (pre.length : Int), a.code⟩ = false := isChg_op _ _ _ _ _ (by decide)
      have h1 : GInv scripts (s.noted ⟨i, -1, 10, pre.length, a.code⟩) gs := h.noted hch (fun e => by cases e) fun _ => ⟨i, pre.length, _, c, rfl, rfl, hs, by rw [List.getElem?_append_right (by simp)]; simp, ha3⟩
      show (gateLaw scripts).W i _ (s.noted ⟨i, -1, 10, pre.length, a.code⟩) gs
      by_cases e4 : a.code = 4
      · rw [if_pos e4]
        have st := ha1 e4
        obtain ⟨l, hl, k1, k2, _⟩ := h1.ofg hg
        refine ⟨⟨(pre ++ [(c, a)]) ++ rest.map fun c => (c, ⟨4, 0⟩), .ended, cl, false, n⟩, ?_, h1.set hg rfl ?_ ?_ (fun l' hl' => ⟨?_, fun e => ?_, [], ?_, rfl⟩) (fun _ => rfl) (fun hb => ?_)⟩
        · show Kin.ended _ = Kin.ended _
          rw [List.map_append, zip_snd_pad]
          simp
        · show insOf (_ ++ _) = insOf _
          rw [insOf_append, pad_ins]; exact Int.add_zero _
        · show List.countP isFst (_ ++ _) + _ = List.countP isFst _ + _
          rw [List.countP_append, pad_fst]; rfl
        · have := k1
          simp only [List.length_append, List.length_map] at this ⊢
          omega
        · right
          refine ⟨(c, a), ?_, e4⟩
          simp
        · rw [hsplit l' hl']
          simp [List.map_map, Function.comp_def]
        · have := (h1.bal hb).1
          rw [show (s.noted ⟨i, -1, 10, pre.length, a.code⟩).stuck = s.stuck from rfl, st] at this
          cases this
      · rw [if_neg e4]
        have := gate_one h8 h64 hF rest (pre ++ [(c, a)]) cl n _ gs h1 hg (by rw [hs]; simp) (ha2 e4)
        simpa using this
    have hch9 : isChg ⟨(i : Int), -1, 9, (pre.length : Int), 0⟩ = false := isChg_op _ _ _ _ _ (by decide)
    have h1 : GInv scripts (s.noted ⟨i, -1, 9, pre.length, 0⟩) gs := h.noted hch9 (fun e => by cases e) (fun e => by cases e)
    have st1 : (s.noted ⟨i, -1, 9, pre.length, 0⟩).stuck = false := hst
    show (gateLaw scripts).W i (doGate F c _) (s.noted ⟨i, -1, 9, pre.length, 0⟩) gs
    generalize s.noted ⟨i, -1, 9, pre.length, 0⟩ = s1 at h1 st1 ⊢
    -- an answer that changes nothing
    have hA : ∀ (a : Ans) s gs, GInv scripts s gs → gs[i]? = some ⟨pre, .go, cl, false, n⟩ → s.stuck = false → a.code ≠ 4 → isFst (c, a) = false → (c.op = 1 → a.code ≠ 0) → (c.op = 2 → a.code ≠ 0 ∧ (gOf s.trace).1 = 0) → (c.op = 3 → a.code = 0 → (gOf s.trace).1 ≤ 0 ∧ (gOf s.trace).2 = 1) →
        (gateLaw scripts).W i (.note 10 pre.length a.code (if a.code = 4 then .ret (pre.map Prod.snd ++ a :: rest.map fun _ => ⟨4, 0⟩) else oneP (doGate F) (pre.length + 1) rest (pre.map Prod.snd ++ [a]))) s gs := by
      intro a s gs h hg hst h4 hf ho1 ho2 ho3
      obtain ⟨l, hl, k1, k2, _⟩ := h.ofg hg
      have hset : GInv scripts s (gs.set i ⟨pre ++ [(c, a)], .go, cl, false, n⟩) := by
        refine h.set hg rfl ?_ ?_ (fun l' hl' => ⟨?_, fun e => ?_, rest, ?_, trivial⟩) (fun _ => rfl) (fun hb => ?_)
        · show insOf (pre ++ [(c, a)]) = insOf pre
          rw [insOf_snoc, if_neg (fun e => ho1 e.1 e.2), if_neg (fun e => (ho2 e.1).1 e.2)]; omega
        · show (pre ++ [(c, a)]).countP isFst + _ = pre.countP isFst + _
          rw [fst_snoc, hf]; rfl
        · have := k1
          simp only [List.length_append, List.length_cons, List.length_nil] at this ⊢
          omega
        · rcases k2 e with k | ⟨p, hp, k⟩
          · cases k
          · exact .inr ⟨p, List.mem_append_left _ hp, k⟩
        · rw [hsplit l' hl']; simp
        · by_cases o2 : c.op = 2
          · rw [(ho2 o2).2]
            refine sum_nonneg GG.debt _ fun g hg' => ?_
            rcases List.mem_or_eq_of_mem_set hg' with h5 | h5
            · exact debt_nonneg h hb h5
            · rw [h5]
              show 0 ≤ debtOf (pre ++ [(c, a)])
              rw [debtOf_map]
              refine (hb _ (List.mem_of_getElem? hs) _ rest ?_).1
              simp
          · refine h.debts hg ?_ hb
            show debtOf pre ≤ debtOf (pre ++ [(c, a)])
            rw [debtOf_snoc, if_neg o2]
            split <;> omega
      exact Law.W_set _ _ _ _ (hK a cl n s _ hset (get_set hg) (fun e => absurd e h4) (fun _ => hst) ho3)
    unfold doGate
    by_cases o1 : c.op = 1
    · rw [if_pos o1]
      refine gate_cas h8 h64 (fun v e => by have : wrap64 (v + 2) ≠ v := (by unfold wrap64; omega); exact this e.symm) (fun s gs h hg hst hno => hA ⟨60, 0⟩ s gs h hg hst (by decide) (by simp [isFst]) (fun _ => by decide) (fun e => by rw [o1] at e; cases e) (fun e => by rw [o1] at e; cases e)) (fun s gs h hg hst hno => ?_) F 0 s1 gs (by omega) h1 hg (Nat.zero_le _) st1
      have hS : (gOf s.trace).2 = 0 := by
        have hv := h.val
        have h01 := h.s01
        have : ¬ (s.vals.getD 0 0) % 2 = 1 := fun e => by rw [(gShut_iff _).2 e] at hno; cases hno
        omega
      have hsm := h.small h8 h64
      have hi0 := h.i0
      have hw : wrap64 (s.vals.getD 0 0 + 2) = s.vals.getD 0 0 + 2 := by
        have hv := h.val
        exact wrap64_id (by omega) (by omega)
      rw [hw]
      obtain ⟨l, hl, k1, k2, _⟩ := h.ofg hg
      have hcas : GInv scripts ((s.put 0 (s.vals.getD 0 0 + 2)).did i 0 4 (s.vals.getD 0 0) (s.vals.getD 0 0 + 2)) (gs.set i ⟨pre ++ [(c, ⟨0, 0⟩)], .go, cl, false, n + 1⟩) := by
        refine h.cas (d1 := 1) (d2 := 0) hg (.inl ⟨rfl, rfl, hS⟩) (by omega) hst rfl ?_ ?_ (fun l' hl' => ⟨?_, fun e => ?_, rest, ?_, trivial⟩) (fun _ => ?_)
        · show insOf (pre ++ [(c, ⟨0, 0⟩)]) = insOf pre + 1
          rw [insOf_snoc, if_pos ⟨o1, rfl⟩]
        · show (((pre ++ [(c, (⟨0, 0⟩ : Ans))]).countP isFst + _ : Nat) : Int) = ((pre.countP isFst + _ : Nat) : Int) + 0
          rw [fst_snoc]; simp [isFst, o1]
        · have := k1
          simp only [List.length_append, List.length_cons, List.length_nil] at this ⊢
          simp at this ⊢
          omega
        · rcases k2 e with k | ⟨p, hp, k⟩
          · cases k
          · exact .inr ⟨p, List.mem_append_left _ hp, k⟩
        · rw [hsplit l' hl']; simp
        · show debtOf pre + 1 ≤ debtOf (pre ++ [(c, ⟨0, 0⟩)])
          rw [debtOf_snoc, if_pos o1]; omega
      exact Law.W_set _ _ _ _ (hK ⟨0, 0⟩ cl (n + 1) _ _ hcas (get_set hg) (fun e => by cases e) (fun _ => hst) (fun e => by rw [o1] at e; cases e))
    · rw [if_neg o1]
      by_cases o2 : c.op = 2
      · rw [if_pos o2]
        refine gate_cas h8 h64 (fun v e => by have : wrap64 (v - 2) ≠ v := (by unfold wrap64; omega); exact this e.symm) (fun s gs h hg hst hno => hA ⟨61, 0⟩ s gs h hg hst (by decide) (by simp [isFst]) (fun e => absurd e o1) (fun _ => ⟨by decide, ?_⟩) (fun e => by rw [o2] at e; cases e)) (fun s gs h hg hst hno => ?_) F 0 s1 gs (by omega) h1 hg (Nat.zero_le _) st1
        · have hlt : 2 * (gOf s.trace).1 + (gOf s.trace).2 < 2 := of_decide_eq_true hno
          have := h.i0
          have := h.s01
          omega
        have hI : 1 ≤ (gOf s.trace).1 := by
          have hv := h.val
          have h01 := h.s01
          have : ¬ (s.vals.getD 0 0) < 2 := fun e => by
            have : gLow (s.vals.getD 0 0) = true := decide_eq_true e
            rw [this] at hno; cases hno
          omega
        have hsm := h.small h8 h64
        have hw : wrap64 (s.vals.getD 0 0 - 2) = s.vals.getD 0 0 - 2 := by
          have hv := h.val
          have h01 := h.s01
          exact wrap64_id (by omega) (by omega)
        rw [hw]
        obtain ⟨l, hl, k1, k2, _⟩ := h.ofg hg
        have hcas : GInv scripts ((s.put 0 (s.vals.getD 0 0 - 2)).did i 0 4 (s.vals.getD 0 0) (s.vals.getD 0 0 - 2)) (gs.set i ⟨pre ++ [(c, ⟨0, 0⟩)], .go, cl, false, n + 1⟩) := by
          refine h.cas (d1 := -1) (d2 := 0) hg (.inr (.inl ⟨rfl, rfl, hI⟩)) (by omega) hst rfl ?_ ?_ (fun l' hl' => ⟨?_, fun e => ?_, rest, ?_, trivial⟩) (fun _ => ?_)
          · show insOf (pre ++ [(c, ⟨0, 0⟩)]) = insOf pre + -1
            rw [insOf_snoc, if_neg (fun e => o1 e.1), if_pos ⟨o2, rfl⟩]
          · show (((pre ++ [(c, (⟨0, 0⟩ : Ans))]).countP isFst + _ : Nat) : Int) = ((pre.countP isFst + _ : Nat) : Int) + 0
            rw [fst_snoc]; simp [isFst, o2]
          · have := k1
            simp only [List.length_append, List.length_cons, List.length_nil] at this ⊢
            simp at this ⊢
            omega
          · rcases k2 e with k | ⟨p, hp, k⟩
            · cases k
            · exact .inr ⟨p, List.mem_append_left _ hp, k⟩
          · rw [hsplit l' hl']; simp
          · show debtOf pre + -1 ≤ debtOf (pre ++ [(c, ⟨0, 0⟩)])
            rw [debtOf_snoc, if_neg o1, if_pos o2]; omega
        exact Law.W_set _ _ _ _ (hK ⟨0, 0⟩ cl (n + 1) _ _ hcas (get_set hg) (fun e => by cases e) (fun _ => hst) (fun e => by rw [o2] at e; cases e))
      · rw [if_neg o2]
        by_cases o3 : c.op = 3
        · rw [if_pos o3]
          refine gate_cas h8 h64 (fun v e => by have : wrap64 (v + 1) ≠ v := (by unfold wrap64; omega); exact this e.symm) (fun s gs h hg hst hno => ?_) (fun s gs h hg hst hno => ?_) F 0 s1 gs (by omega) h1 hg (Nat.zero_le _) st1
          · -- it was shut
            have hS : (gOf s.trace).2 = 1 := by
              have h01 := h.s01
              have := (gShut_iff _).1 hno
              omega
            refine gate_wait h8 h64 o3 hs (fun b s gs h hg hb1 hb2 => ?_) F 0 s gs (by omega) h hg (Nat.zero_le _) hS hst
            cases b with
            | true =>
              obtain ⟨q1, q2, q3⟩ := hb1 rfl
              exact hA ⟨0, 0⟩ s gs h hg q1 (by decide) (by simp [isFst]) (fun e => absurd e o1) (fun e => absurd e o2) (fun _ _ => ⟨by omega, q3⟩)
            | false =>
              have hsk := hb2 rfl
              obtain ⟨l, hl, k1, k2, _⟩ := h.ofg hg
              have hset : GInv scripts s (gs.set i ⟨pre ++ [(c, ⟨4, 0⟩)], .go, cl, false, n⟩) := by
                refine h.set hg rfl ?_ ?_ (fun l' hl' => ⟨?_, fun e => ?_, rest, ?_, trivial⟩) (fun _ => rfl) (fun hb => by have := (h.bal hb).1; rw [hsk] at this; cases this)
                · show insOf (pre ++ [(c, ⟨4, 0⟩)]) = insOf pre
                  rw [insOf_snoc, if_neg (fun e => o1 e.1), if_neg (fun e => o2 e.1)]; omega
                · show (pre ++ [(c, (⟨4, 0⟩ : Ans))]).countP isFst + _ = pre.countP isFst + _
                  rw [fst_snoc]; simp [isFst]
                · have := k1
                  simp only [List.length_append, List.length_cons, List.length_nil] at this ⊢
                  omega
                · exact .inr ⟨(c, ⟨4, 0⟩), by simp, rfl⟩
                · rw [hsplit l' hl']; simp
              exact Law.W_set _ _ _ _ (hK ⟨4, 0⟩ cl n s _ hset (get_set hg) (fun _ => hsk) (fun e => absurd rfl e) (fun _ e => by cases e))
          · -- it is shut now
            have hS : (gOf s.trace).2 = 0 := by
              have hv := h.val
              have h01 := h.s01
              have : ¬ (s.vals.getD 0 0) % 2 = 1 := fun e => by rw [(gShut_iff _).2 e] at hno; cases hno
              omega
            have hsm := h.small h8 h64
            have hi0 := h.i0
            have hw : wrap64 (s.vals.getD 0 0 + 1) = s.vals.getD 0 0 + 1 := by
              have hv := h.val
              exact wrap64_id (by omega) (by omega)
            rw [hw]
            obtain ⟨l, hl, k1, k2, _⟩ := h.ofg hg
            have hcl : cl = false := by
              cases hcl' : cl with
              | false => rfl
              | true =>
                exfalso
                have h2 := h.cls
                rw [hS] at h2
                have h3 := sum_map_set GG.closed gs i _ (⟨[], .go, false, false, 0⟩ : GG) hg
                have h4 : GG.closed ⟨pre, .go, cl, false, n⟩ = pre.countP isFst + 1 := by unfold GG.closed; rw [hcl']; rfl
                have h5 : GG.closed ⟨[], .go, false, false, 0⟩ = 0 := rfl
                omega
            subst hcl
            have hcas : GInv scripts ((s.put 0 (s.vals.getD 0 0 + 1)).did i 0 4 (s.vals.getD 0 0) (s.vals.getD 0 0 + 1)) (gs.set i ⟨pre, .go, true, true, n + 1⟩) := by
              refine h.cas (d1 := 0) (d2 := 1) hg (.inr (.inr ⟨rfl, rfl, hS⟩)) (by omega) hst rfl ?_ ?_ (fun l' hl' => ⟨?_, fun e => .inl rfl, c :: rest, ?_, trivial⟩) (fun _ => ?_)
              · show insOf pre = insOf pre + 0
                omega
              · show ((pre.countP isFst + 1 : Nat) : Int) = ((pre.countP isFst + 0 : Nat) : Int) + 1
                omega
              · have := k1
                simp at this ⊢
                omega
              · rw [hsplit l' hl']
              · show debtOf pre + 0 ≤ debtOf pre
                omega
            have hS' : (gOf ((s.put 0 (s.vals.getD 0 0 + 1)).did i 0 4 (s.vals.getD 0 0) (s.vals.getD 0 0 + 1)).trace).2 = 1 := by
              have h01 := hcas.s01
              have h2 := hcas.cls
              have h3 := sum_map_set GG.closed (gs.set i ⟨pre, .go, true, true, n + 1⟩) i _ (⟨[], .go, false, false, 0⟩ : GG) (get_set hg)
              have h4 : GG.closed ⟨pre, .go, true, true, n + 1⟩ = pre.countP isFst + 1 := rfl
              have h5 : GG.closed ⟨[], .go, false, false, 0⟩ = 0 := rfl
              omega
            refine Law.W_set _ _ _ _ (gate_wait h8 h64 o3 hs (fun b s gs h hg hb1 hb2 => ?_) F 0 _ _ (by omega) hcas (get_set hg) (Nat.zero_le _) hS' hst)
            obtain ⟨l, hl, k1, k2, _⟩ := h.ofg hg
            cases b with
            | true =>
              obtain ⟨q1, q2, q3⟩ := hb1 rfl
              have hset : GInv scripts s (gs.set i ⟨pre ++ [(c, ⟨0, 1⟩)], .go, false, false, n + 1⟩) := by
                refine h.set hg rfl ?_ ?_ (fun l' hl' => ⟨?_, fun e => (by cases e), rest, ?_, trivial⟩) (fun _ => rfl) (h.debts hg ?_)
                · show insOf (pre ++ [(c, ⟨0, 1⟩)]) = insOf pre
                  rw [insOf_snoc, if_neg (fun e => o1 e.1), if_neg (fun e => o2 e.1)]; omega
                · show (pre ++ [(c, (⟨0, 1⟩ : Ans))]).countP isFst + 0 = pre.countP isFst + 1
                  rw [fst_snoc]; simp [isFst, o3]
                · have := k1
                  simp only [List.length_append, List.length_cons, List.length_nil] at this ⊢
                  simp at this ⊢
                  omega
                · rw [hsplit l' hl']; simp
                · show debtOf pre ≤ debtOf (pre ++ [(c, ⟨0, 1⟩)])
                  rw [debtOf_snoc, if_neg o1, if_neg o2]; omega
              exact Law.W_set _ _ _ _ (hK ⟨0, 1⟩ false (n + 1) s _ hset (get_set hg) (fun e => by cases e) (fun _ => q1) (fun _ _ => ⟨by omega, q3⟩))
            | false =>
              have hsk := hb2 rfl
              have hset : GInv scripts s (gs.set i ⟨pre ++ [(c, ⟨4, 0⟩)], .go, true, false, n + 1⟩) := by
                refine h.set hg rfl ?_ ?_ (fun l' hl' => ⟨?_, fun e => ?_, rest, ?_, trivial⟩) (fun _ => rfl) (fun hb => by have := (h.bal hb).1; rw [hsk] at this; cases this)
                · show insOf (pre ++ [(c, ⟨4, 0⟩)]) = insOf pre
                  rw [insOf_snoc, if_neg (fun e => o1 e.1), if_neg (fun e => o2 e.1)]; omega
                · show (pre ++ [(c, (⟨4, 0⟩ : Ans))]).countP isFst + _ = pre.countP isFst + _
                  rw [fst_snoc]; simp [isFst]
                · have := k1
                  simp only [List.length_append, List.length_cons, List.length_nil] at this ⊢
                  simp at this ⊢
                  omega
                · exact .inr ⟨(c, ⟨4, 0⟩), by simp, rfl⟩
                · rw [hsplit l' hl']; simp
              exact Law.W_set _ _ _ _ (hK ⟨4, 0⟩ true (n + 1) s _ hset (get_set hg) (fun _ => hsk) (fun e => absurd rfl e) (fun _ e => by cases e))
        · rw [if_neg o3]
          exact hA ⟨1, 0⟩ s1 gs h1 hg st1 (by decide) (by simp [isFst]) (fun e => absurd e o1) (fun e => absurd e o2) (fun e => absurd e o3)
end
end Go.Proofs.Ytoabkcalphpkhaa

/- Gates, behind all turns. -/
namespace Go.Proofs.Ytoabkcalphpkhaa
open Go Go.RowKit
set_option linter.unusedVariables false
set_option linter.unusedSimpArgs false

theorem gOf_le (l : List St5) : (gOf l).1 ≤ l.length ∧ -(l.length : Int) ≤ (gOf l).1 ∧ 0 ≤ (gOf l).2 ∧ (gOf l).2 ≤ l.length := by
  unfold gOf
  have : ∀ (l : List St5) (a : Int × Int), (l.foldl gStep a).1 ≤ a.1 + l.length ∧ a.1 - l.length ≤ (l.foldl gStep a).1 ∧ a.2 ≤ (l.foldl gStep a).2 ∧ (l.foldl gStep a).2 ≤ a.2 + l.length := fun l => by
    induction l with
    | nil => intro a; simp
    | cons x l ih =>
      intro a
      have h3 := ih (gStep a x)
      have h4 : (gStep a x).1 ≤ a.1 + 1 ∧ a.1 - 1 ≤ (gStep a x).1 ∧ a.2 ≤ (gStep a x).2 ∧ (gStep a x).2 ≤ a.2 + 1 := by
        unfold gStep
        split
        · split
          · simp; omega
          · split
            · simp; omega
            · simp; omega
        · omega
      simp only [List.foldl_cons, List.length_cons]
      omega
  have := this l (0, 0)
  simpa using this

structure GateFin (scripts : List (List Cal)) (fin : Sys × List Park) : Prop where
  len : fin.2.length = scripts.length
  lens : ∀ (i : Nat) l pk, scripts[i]? = some l → fin.2[i]? = some pk → (outOf pk).length = l.length
  room : fin.1.trace.length ≤ 1300000
  tr : TrG scripts fin.1.trace
  ins : insOf (pairsOf scripts (fin.2.map outOf)) = (gOf fin.1.trace).1
  fst : ((pairsOf scripts (fin.2.map outOf)).countP isFst : Int) ≤ (gOf fin.1.trace).2
  fst2 : ((pairsOf scripts (fin.2.map outOf)).countP isFst : Int) = (gOf fin.1.trace).2 ∨ ∃ p ∈ pairsOf scripts (fin.2.map outOf), p.2.code = 4
  goes : Bal scripts → fin.1.stuck = false ∧ (lastOf fin.1.trace = 0 ∨ lastOf fin.1.trace = 1)

theorem casP_dep {no : Int → Bool} {up : Int → Int} {K : Bool → Proc} {m : Nat} (h : ∀ e, Proc.dep (K e) m) : ∀ f, Proc.dep (casP 0 no up K f) (m + 2 * f)
  | 0 => trivial
  | f + 1 => by
    refine ⟨by omega, fun v => ?_⟩
    dsimp only
    split
    · exact Proc.dep_mono (h false) (by omega)
    · refine ⟨by omega, fun x => ?_⟩
      dsimp only
      split
      · exact Proc.dep_mono (h true) (by omega)
      · exact Proc.dep_mono (casP_dep h f) (by omega)
theorem untilP_dep {stop : Int → Bool} {K : Bool → Proc} {m : Nat} (h : ∀ e, Proc.dep (K e) m) : ∀ f, Proc.dep (untilP 0 stop K f) (m + 2 * f)
  | 0 => trivial
  | f + 1 => by
    refine ⟨by omega, fun v => ?_⟩
    dsimp only
    split
    · exact Proc.dep_mono (h true) (by omega)
    · refine ⟨by omega, fun x => ?_⟩
      dsimp only
      split
      · exact Proc.dep_mono (untilP_dep h f) (by omega)
      · exact Proc.dep_mono (h false) (by omega)
theorem doGate_dep (F : Nat) (c : Cal) (k : Ans → Proc) (m : Nat) (h : ∀ a, Proc.dep (k a) m) : Proc.dep (doGate F c k) (m + 4 * F) := by
  unfold doGate
  split
  · exact Proc.dep_mono (casP_dep (fun e => h _) F) (by omega)
  · split
    · exact Proc.dep_mono (casP_dep (fun e => h _) F) (by omega)
    · split
      · exact Proc.dep_mono (casP_dep (m := m + 2 * F) (fun b => untilP_dep (fun e => h _) F) F) (by omega)
      · exact Proc.dep_mono (h _) (by omega)

theorem insOf_flatten : ∀ l : List (List (Cal × Ans)), insOf l.flatten = (l.map insOf).sum
  | [] => rfl
  | x :: l => by rw [List.flatten_cons, insOf_append, List.map_cons, List.sum_cons, insOf_flatten l]

theorem gate_fin {scripts : List (List Cal)} (h8 : scripts.length ≤ 8) (h64 : ∀ l ∈ scripts, l.length ≤ 64) (sched : List Int) {K F : Nat} (hK : K = 1500000) (hF : F = 600) :
    ∃ fin, spawn sched K (scripts.map fun l => oneP (doGate F) 0 l []) ⟨0, -1, [0], [0], [], false⟩ [] = some fin ∧ GateFin scripts fin := by
  have hzI : ∀ m : Nat, ∀ f : GG → Int, f ⟨[], .unborn, false, false, 0⟩ = 0 → ((List.replicate m (⟨[], .unborn, false, false, 0⟩ : GG)).map f).sum = 0 := fun m f hf => by
    induction m with
    | zero => rfl
    | succ m ih => rw [List.replicate_succ, List.map_cons, List.sum_cons, ih, hf]; rfl
  have hzN : ∀ m : Nat, ∀ f : GG → Nat, f ⟨[], .unborn, false, false, 0⟩ = 0 → ((List.replicate m (⟨[], .unborn, false, false, 0⟩ : GG)).map f).sum = 0 := fun m f hf => by
    induction m with
    | zero => rfl
    | succ m ih => rw [List.replicate_succ, List.map_cons, List.sum_cons, ih, hf]
  have hI : GInv scripts ⟨0, -1, [0], [0], [], false⟩ (List.replicate scripts.length ⟨[], .unborn, false, false, 0⟩) := by
    refine ⟨List.length_replicate, rfl, rfl, Int.le_refl _, .inl rfl, hzN _ _ rfl, hzI _ _ rfl, by rw [hzN _ _ rfl]; rfl, fun k x hk => by simp at hk, rfl, fun j g l hj hl => ?_, fun h => (by cases h), fun _ => ⟨rfl, by rw [hzI _ _ rfl]; exact Int.le_refl _⟩⟩
    obtain rfl : g = ⟨[], .unborn, false, false, 0⟩ := (List.mem_replicate.1 (List.mem_of_getElem? hj)).2
    exact ⟨Nat.zero_le _, fun e => (by cases e), l, rfl, rfl⟩
  obtain ⟨fin, gs', q1, q2, q3, q4, q5, q6⟩ := (gateLaw scripts).plays (g0 := ⟨[], .unborn, false, false, 0⟩) sched (K := K) (e := 4 * F) (doP := doGate F) (scripts := scripts) hI rfl rfl (fun c k m h => doGate_dep F c k m h) h8 h64 (fun j l s gs hl h hst hg => by
    have h : GInv scripts s gs := h
    have hgo := h.own (ph := .go) hg (fun _ _ => trivial) (fun _ => rfl)
    exact Law.W_set ⟨[], .go, false, false, 0⟩ _ _ _ (gate_one h8 h64 (by omega) l [] false 0 s _ hgo (get_set hg) (by simpa using hl) hst)) (by rw [hK, hF]; decide)
  have q2 : GInv scripts fin.1 gs' := q2
  have hall : ∀ (j : Nat) g l pk, gs'[j]? = some g → scripts[j]? = some l → fin.2[j]? = some pk → l.zip (outOf pk) = g.pre ∧ (outOf pk).length = l.length ∧ g.w = false ∧ l = g.pre.map Prod.fst := fun j g l pk hg hl hpk => by
    obtain ⟨out, e1, e2⟩ := q5 j pk g hpk hg
    subst e1
    obtain ⟨h1, h2, rest, h3, h4⟩ := q2.each j g l hg hl
    cases g with
    | mk pre ph cl w n =>
      cases ph with
      | ended =>
        cases w with
        | true => cases e2
        | false =>
        have e2 : Kin.ended (pre.map Prod.snd) = Kin.ended out := e2
        injection e2 with e2
        have h4 : rest = [] := h4
        have h3 : l = pre.map Prod.fst ++ rest := h3
        rw [h4, List.append_nil] at h3
        subst h3
        subst e2
        exact ⟨zip_map_map pre, by simp [outOf], rfl, rfl⟩
      | unborn => cases e2
      | go => cases e2
      | dl u => cases e2
      | dc c0 v u => cases e2
      | wl u => cases e2
      | wa s u => cases e2
  have hpairs : List.zipWith List.zip scripts (fin.2.map outOf) = gs'.map GG.pre := by
    refine List.ext_getElem? fun j => ?_
    rw [List.getElem?_zipWith, List.getElem?_map, List.getElem?_map]
    by_cases hj : j < scripts.length
    · have e1 : scripts[j]? = some scripts[j] := List.getElem?_eq_getElem hj
      have e2 : fin.2[j]? = some fin.2[j] := List.getElem?_eq_getElem (by omega)
      have e3 : gs'[j]? = some gs'[j] := List.getElem?_eq_getElem (by omega)
      rw [e1, e2, e3]
      show some _ = some _
      rw [(hall j _ _ _ e3 e1 e2).1]
    · rw [List.getElem?_eq_none (by omega), List.getElem?_eq_none (l := gs') (by omega)]
      rfl
  have hfst : (pairsOf scripts (fin.2.map outOf)).countP isFst ≤ (gs'.map GG.closed).sum := by
    unfold pairsOf
    rw [hpairs, List.countP_flatten, List.map_map]
    have : ∀ l : List GG, (l.map (List.countP isFst ∘ GG.pre)).sum ≤ (l.map GG.closed).sum := fun l => by
      induction l with
      | nil => exact Nat.le_refl _
      | cons g l ih =>
        simp only [List.map_cons, List.sum_cons, Function.comp_def] at ih ⊢
        have : g.pre.countP isFst ≤ g.closed := by unfold GG.closed; omega
        omega
    exact this gs'
  refine ⟨fin, q1, q4, fun j l pk hl hpk => ?_, by rw [hF] at q6; omega, q2.tr, ?_, ?_, ?_, fun hb => ?_⟩
  · have hj := (List.getElem?_eq_some_iff.1 hl).1
    have e3 : gs'[j]? = some gs'[j] := List.getElem?_eq_getElem (by omega)
    exact (hall j _ l pk e3 hl hpk).2.1
  · unfold pairsOf
    rw [hpairs, insOf_flatten, List.map_map]
    exact q2.ins
  · have h1 := q2.cls
    have h2 := hfst
    omega
  · by_cases hcl : ∃ g ∈ gs', g.cl = true
    · obtain ⟨g, hg, hc⟩ := hcl
      right
      obtain ⟨j, hj⟩ := List.mem_iff_getElem?.1 hg
      obtain ⟨l, hl, k1, k2, _⟩ := q2.ofg hj
      have hjl := (List.getElem?_eq_some_iff.1 hj).1
      have e2 : fin.2[j]? = some fin.2[j] := List.getElem?_eq_getElem (by omega)
      have hw := (hall j g l _ hj hl e2).2.2.1
      rcases k2 hc with k | ⟨p, hp, k⟩
      · rw [hw] at k; cases k
      · refine ⟨p, ?_, k⟩
        unfold pairsOf
        rw [hpairs]
        exact List.mem_flatten.2 ⟨g.pre, List.mem_map_of_mem hg, hp⟩
    · left
      have h1 := q2.cls
      have : (gs'.map GG.closed).sum = (pairsOf scripts (fin.2.map outOf)).countP isFst := by
        unfold pairsOf
        rw [hpairs, List.countP_flatten, List.map_map]
        congr 1
        refine List.map_congr_left fun g hg => ?_
        have : g.cl = false := Bool.eq_false_iff.2 fun e => hcl ⟨g, hg, e⟩
        unfold GG.closed
        rw [this]; rfl
      omega
  · obtain ⟨b1, b2⟩ := q2.bal hb
    refine ⟨b1, ?_⟩
    have hz : ∀ l : List GG, (∀ g ∈ l, g.debt = 0) → (l.map GG.debt).sum = 0 := fun l => by
      induction l with
      | nil => intro _; rfl
      | cons g l ih =>
        intro hl
        rw [List.map_cons, List.sum_cons, hl g List.mem_cons_self, ih fun g hg => hl g (List.mem_cons_of_mem _ hg)]
        rfl
    rw [hz gs' fun g hg => by
      obtain ⟨j, hj⟩ := List.mem_iff_getElem?.1 hg
      obtain ⟨l, hl, _⟩ := q2.ofg hj
      have hjl := (List.getElem?_eq_some_iff.1 hj).1
      have e2 : fin.2[j]? = some fin.2[j] := List.getElem?_eq_getElem (by omega)
      have hp := (hall j g l _ hj hl e2).2.2.2
      unfold GG.debt
      rw [debtOf_map, ← hp]
      exact (hb l (List.mem_of_getElem? hl) l [] (by simp)).2.1 rfl] at b2
    have h1 := q2.last
    have h2 := q2.i0
    have h3 := q2.s01
    omega
end Go.Proofs.Ytoabkcalphpkhaa

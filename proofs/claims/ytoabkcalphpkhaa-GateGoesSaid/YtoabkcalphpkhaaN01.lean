/- Merged: Turn, Abs. -/
import Derived.Test.YtoabkcalphpkhaaProg
import Derived.WalkKit
import Derived.Below
import Derived.RowKit3
import Derived.BigQuiet
import Derived.Deep.QuietTactic
import Derived.Deep.Draws
/- The plain functions of package turn, each by its contract. -/
namespace Go.Proofs.Ytoabkcalphpkhaa
open Go Go.RowKit
set_option linter.unusedVariables false
set_option linter.unusedSimpArgs false

/-- How often each cell was changed: a row of numbers. -/
def Nums (w : World) (A : Option Addr) (n : Nat) (xs : List Int) : Prop := xs.length = n ∧ ∀ i : Nat, i < n → ∃ ad, A = some ad ∧ w.cell? (ad.add i) = some (.int .i64 (xs.getD i 0))
def changedOf (xs : List Int) (c : Int) : Int := if 0 ≤ c ∧ c < xs.length then xs.getD c.toNat 0 else 0

set_option maxRecDepth 100000 in
theorem changed_calls (w : World) (W : Nat) (A : Option Addr) (n cp : Nat) (xs : List Int) (c : Int) (hmax : n ≤ 9223372036854775807) (h3 : w.cell? ⟨W, 3, none⟩ = some (.slice A n cp)) (hr : Nums w A n xs) :
    Calls Try.prog 108 #[.pointer (some ⟨W, 0, none⟩), .int .i64 c] w fun e w' => e = .returned (.int .i64 (changedOf xs c)) ∧ w' = w := by
  obtain ⟨hl, hr⟩ := hr
  by_cases hc : 0 ≤ c ∧ c < n
  · obtain ⟨ad, rfl, hx⟩ := hr c.toNat (by omega)
    have e : changedOf xs c = xs.getD c.toNat 0 := by unfold changedOf; rw [if_pos (by omega)]
    rw [e]
    have d0 : decide (c < 0) = false := decide_eq_false (by omega)
    have d1 : decide ((n : Int) ≤ c) = false := decide_eq_false (by omega)
    have d2 : decide (0 ≤ c) = true := decide_eq_true hc.1
    have d3 : decide (c < (n : Int)) = true := decide_eq_true hc.2
    go_enter Try.func108, Try.ntmps108
    go_wp2_with fail
    go_ret
    exact ⟨by simp [List.getD_eq_getElem?_getD, show c.toNat < xs.length by omega], rfl⟩
  · have e : changedOf xs c = 0 := by unfold changedOf; rw [if_neg (by omega)]
    rw [e]
    by_cases h0 : c < 0
    · have d0 : decide (c < 0) = true := decide_eq_true h0
      go_enter Try.func108, Try.ntmps108
      go_wp2_with fail
      go_ret
      exact ⟨rfl, rfl⟩
    · have d0 : decide (c < 0) = false := decide_eq_false h0
      have d1 : decide ((n : Int) ≤ c) = true := decide_eq_true (by omega)
      go_enter Try.func108, Try.ntmps108
      go_wp2_with fail
      go_ret
      exact ⟨rfl, rfl⟩
end Go.Proofs.Ytoabkcalphpkhaa

/- Threads that go by turns, as a machine of numbers and lists: processes, their parks, the world's turns. No memory, no program in sight. -/
namespace Go.Proofs.Ytoabkcalphpkhaa
set_option linter.unusedVariables false

/-- A step of a trace. -/
structure St5 where
  th : Int
  ce : Int
  op : Int
  old : Int
  new : Int
  deriving DecidableEq
/-- An answer; a call of a script. -/
structure Ans where
  code : Int
  val : Int
  deriving DecidableEq
structure Cal where
  op : Int
  a : Int
  b : Int
  c : Int
  deriving DecidableEq

/-- What a thread does from here on. -/
inductive Proc where
  | ret (out : List Ans)
  | note (op a b : Int) (k : Proc)
  | step (c : Nat) (op : Int) (f : Int → Int) (k : Int → Proc)
  | await (c : Nat) (k : Bool → Proc)
  | bad
/-- How far a thread is that goes. 'mid': its turn has come, the access is to be made; 'did': it is made, and to be noted; 'woke': it awaited, and goes on. -/
inductive Stat where
  | go (p : Proc)
  | mid (c : Nat) (op : Int) (f : Int → Int) (k : Int → Proc)
  | did (c : Nat) (op : Int) (old new : Int) (k : Proc)
  | woke (c : Nat) (k : Bool → Proc)
/-- Where a thread stands that does not go. -/
inductive Park where
  | want (c : Nat) (op : Int) (f : Int → Int) (k : Int → Proc)
  | wait (c : Nat) (seen : Int) (k : Bool → Proc)
  | ended (out : List Ans)
  | bad
def Park.sits : Park → Bool
  | .want .. | .wait .. => true
  | _ => false
def Park.waits : Park → Bool
  | .wait .. => true
  | _ => false
def Park.isBad : Park → Bool
  | .bad => true
  | _ => false
/-- How it goes on when its turn comes. -/
def Park.resume : Park → Stat
  | .want c op f k => .mid c op f k
  | .wait c _ k => .woke c k
  | .ended out => .go (.ret out)
  | .bad => .go .bad

structure Sys where
  used : Nat
  last : Int
  vals : List Int
  chg : List Int
  trace : List St5
  stuck : Bool

def Sys.noted (s : Sys) (x : St5) : Sys := { s with trace := s.trace ++ [x] }
def Sys.put (s : Sys) (c : Nat) (v : Int) : Sys := { s with vals := s.vals.set c v }
/-- A step is noted; the cell counts as changed, if it is. -/
def Sys.did (s : Sys) (i : Int) (c : Nat) (op old new : Int) : Sys :=
  { s with trace := s.trace ++ [⟨i, c, op, old, new⟩], chg := if old = new then s.chg else s.chg.set c (s.chg.getD c 0 + 1) }

/-- A thread goes on to where it stands next. -/
def adv (i : Int) : Proc → Sys → Sys × Park
  | .ret out, s => (s, .ended out)
  | .note op a b k, s => adv i k (s.noted ⟨i, -1, op, a, b⟩)
  | .step c op f k, s => (s, .want c op f k)
  | .await c k, s => if s.stuck then adv i (k false) s else (s, .wait c (s.chg.getD c 0) k)
  | .bad, s => (s, .bad)
def advS (i : Int) : Stat → Sys → Sys × Park
  | .go p, s => adv i p s
  | .mid c op f k, s => adv i (k (s.vals.getD c 0)) ((s.put c (f (s.vals.getD c 0))).did i c op (s.vals.getD c 0) (f (s.vals.getD c 0)))
  | .did c op old new k, s => adv i k (s.did i c op old new)
  | .woke c k, s => if s.stuck then adv i (k false) s else adv i (k true) (s.noted ⟨i, c, 6, 0, 0⟩)

def Park.ready (s : Sys) : Park → Bool
  | .want .. => true
  | .wait c seen _ => s.stuck || decide (s.chg.getD c 0 ≠ seen)
  | _ => false
def readyL (s : Sys) (ps : List Park) : List Nat := (List.range ps.length).filter fun i => (ps.getD i .bad).ready s
/-- The schedule's next number, as a place among so many. -/
def placeOf (x : Int) (n : Nat) : Int := if x.tmod n < 0 then x.tmod n + n else x.tmod n
/-- The first one behind 'last'; else the first of all. -/
def nextOf (last : Int) (l : List Nat) : Nat := ((l.find? fun (j : Nat) => decide (last < (j : Int))).getD (l.getD 0 0))
def pickOf (sched : List Int) (s : Sys) (l : List Nat) : Nat := if s.used < sched.length then l.getD (placeOf (sched.getD s.used 0) l.length).toNat 0 else nextOf s.last l
def Sys.picked (sched : List Int) (s : Sys) (j : Nat) : Sys := { s with used := if s.used < sched.length then s.used + 1 else s.used, last := j }
def Sys.jam (s : Sys) : Sys := { s with stuck := true, trace := s.trace ++ [⟨-1, -1, 7, 0, 0⟩] }

/-- The world's turns, n at most: how all stands when nobody is left. -/
def run (sched : List Int) : Nat → Sys → List Park → Option (Sys × List Park)
  | 0, _, _ => none
  | n + 1, s, ps =>
    let l := readyL s ps
    if l = [] then (if ps.any Park.waits then run sched n s.jam ps else some (s, ps))
    else
      let j := pickOf sched s l
      let r := advS j (ps.getD j .bad).resume (s.picked sched j)
      if r.2.isBad then none else run sched n r.1 (ps.set j r.2)
/-- Threads begin, one behind the other; then the turns. -/
def spawn (sched : List Int) (n : Nat) : List Proc → Sys → List Park → Option (Sys × List Park)
  | [], s, ps => run sched n s ps
  | p :: rest, s, ps =>
    let r := adv ps.length p s
    if r.2.isBad then none else spawn sched n rest r.1 (ps ++ [r.2])

theorem adv_longer (i : Int) : ∀ (p : Proc) (s : Sys), s.trace.length ≤ (adv i p s).1.trace.length
  | .ret _, s => Nat.le_refl _
  | .note _ _ _ k, s => Nat.le_trans (by simp [Sys.noted]) (adv_longer i k _)
  | .step .., s => Nat.le_refl _
  | .await c k, s => by
    simp only [adv]
    split
    · exact adv_longer i (k false) s
    · exact Nat.le_refl _
  | .bad, s => Nat.le_refl _
theorem advS_longer (i : Int) (p : Stat) (s : Sys) : s.trace.length ≤ (advS i p s).1.trace.length := by
  cases p with
  | go p => exact adv_longer i p s
  | mid c op f k => exact Nat.le_trans (by simp [Sys.did, Sys.put]) (adv_longer i (k _) _)
  | did c op old new k => exact Nat.le_trans (by simp [Sys.did]) (adv_longer i k _)
  | woke c k =>
    simp only [advS]
    split
    · exact adv_longer i (k false) s
    · exact Nat.le_trans (by simp [Sys.noted]) (adv_longer i (k true) _)
theorem adv_lens (i : Int) : ∀ (p : Proc) (s : Sys), (adv i p s).1.vals.length = s.vals.length ∧ (adv i p s).1.chg.length = s.chg.length
  | .ret _, s => ⟨rfl, rfl⟩
  | .note _ _ _ k, s => adv_lens i k _
  | .step .., s => ⟨rfl, rfl⟩
  | .await c k, s => by
    simp only [adv]
    split
    · exact adv_lens i (k false) s
    · exact ⟨rfl, rfl⟩
  | .bad, s => ⟨rfl, rfl⟩

theorem run_longer (sched : List Int) : ∀ (n : Nat) (s : Sys) (ps : List Park) (s' : Sys) (ps' : List Park), run sched n s ps = some (s', ps') → s.trace.length ≤ s'.trace.length
  | 0, _, _, _, _, h => by cases h
  | n + 1, s, ps, s', ps', h => by
    simp only [run] at h
    split at h
    · split at h
      · exact Nat.le_trans (by simp [Sys.jam]) (run_longer sched n _ _ _ _ h)
      · cases h; exact Nat.le_refl _
    · split at h
      · cases h
      · have h1 := run_longer sched n _ _ _ _ h
        have h2 := advS_longer (pickOf sched s (readyL s ps)) (ps.getD (pickOf sched s (readyL s ps)) .bad).resume (s.picked sched (pickOf sched s (readyL s ps)))
        exact Nat.le_trans h2 h1
theorem spawn_longer (sched : List Int) (n : Nat) : ∀ (l : List Proc) (s : Sys) (ps : List Park) (s' : Sys) (ps' : List Park), spawn sched n l s ps = some (s', ps') → s.trace.length ≤ s'.trace.length
  | [], s, ps, s', ps', h => run_longer sched n s ps s' ps' h
  | p :: rest, s, ps, s', ps', h => by
    simp only [spawn] at h
    split at h
    · cases h
    · exact Nat.le_trans (adv_longer _ p s) (spawn_longer sched n rest _ _ _ _ h)

/-- A script, call by call. -/
def oneP (doP : Cal → (Ans → Proc) → Proc) : Nat → List Cal → List Ans → Proc
  | _, [], acc => .ret acc
  | i, c :: l, acc => .note 9 i 0 (doP c fun a => .note 10 i a.code (if a.code = 4 then .ret (acc ++ a :: l.map fun _ => ⟨4, 0⟩) else oneP doP (i + 1) l (acc ++ [a])))
end Go.Proofs.Ytoabkcalphpkhaa

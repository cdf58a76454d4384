/- Merged: Rep, Stage, Rep2, Parks, Did, Notes, Turns, Await. -/
import Derived.Test.YtoabkcalphpkhaaN02
import Derived.Test.YtoabkcalphpkhaaN09
import Derived.Test.YtoabkcalphpkhaaN10
import Derived.StillTailTactics
import Derived.BigQuiet
import Derived.Deep.QuietTactic
/- How a world of threads lies in memory; what its parts are; what each step turns. -/
namespace Go.Proofs.Ytoabkcalphpkhaa
open Go Go.Conc Go.RowKit
open Go.Proofs.YtoabkcalphpkhaaW.PrintWords
set_option linter.unusedVariables false
set_option linter.unusedSimpArgs false
set_option linter.unusedSectionVars false

abbrev ptr (b : Nat) : Value := .pointer (some ⟨b, 0, none⟩)
abbrev num (x : Int) : Value := .int .i64 x
def In64 (v : Int) : Prop := -9223372036854775808 ≤ v ∧ v ≤ 9223372036854775807

/-! ### rows of plain elements -/
def Flat {α : Type} (d : Kd α) : Prop := ∀ w w' base base' ok ok' x cs, d.M w base ok x cs → d.M w' base' ok' x cs
theorem flat_scalar {α : Type} (enc : α → Value) (h1) : Flat (Kd.scalar enc h1) := fun _ _ _ _ _ _ _ _ h => h
theorem flat_pair {α β : Type} {a : Kd α} {b : Kd β} (ha : Flat a) (hb : Flat b) : Flat (Kd.pair a b) := by
  rintro w w' base base' ok ok' x cs ⟨c0, c1, rfl, h0, h1⟩
  exact ⟨c0, c1, rfl, ha _ _ _ _ _ _ _ _ h0, hb _ _ _ _ _ _ _ _ h1⟩
theorem flat_iso {α β : Type} {d : Kd α} (h : Flat d) (f : β → α) : Flat (Kd.iso d f) := fun _ _ _ _ _ _ _ _ hm => h _ _ _ _ _ _ _ _ hm
theorem R_flat {α : Type} {d : Kd α} (hf : Flat d) {e : Nat} {w w' : World} {base : Nat} {ok ok' : Nat → Prop} {v : Value} {xs : List α} (h : d.R e w base ok v xs) (hm : ∀ k, v.ownBlock = some k → w'.heap[k]? = w.heap[k]?) (ho : ∀ k, v.ownBlock = some k → ok' k) : d.R e w' base ok' v xs := by
  obtain ⟨h0, inner, hi, hr⟩ := h
  exact ⟨ho, inner, own_move hi hm, hr.imp_ fun _ _ hp => hf _ _ _ _ _ _ _ _ hp⟩
abbrev kI : Kd Int := Kd.scalar num (fun _ => rfl)
abbrev kP : Kd Nat := Kd.scalar ptr (fun _ => rfl)
abbrev kA : Kd Ans := Kd.iso (Kd.pair (Kd.int .i64) (Kd.int .i64)) (fun x => (x.code, x.val))
theorem flat_kI : Flat kI := flat_scalar _ _
theorem flat_kP : Flat kP := flat_scalar _ _
theorem flat_kA : Flat kA := flat_iso (flat_pair (flat_scalar _ _) (flat_scalar _ _)) _
theorem flat_k40 : Flat k40 := flat_iso (flat_pair (flat_scalar _ _) (flat_pair (flat_scalar _ _) (flat_pair (flat_scalar _ _) (flat_pair (flat_scalar _ _) (flat_scalar _ _))))) _
/-- A row of the world's own. -/
abbrev Row {α : Type} (d : Kd α) (e : Nat) (u : World) (v : Value) (xs : List α) : Prop := d.R e u 0 (fun _ => True) v xs
theorem Row.move {α : Type} {d : Kd α} (hf : Flat d) {e : Nat} {u u' : World} {v : Value} {xs : List α} (h : Row d e u v xs) (hm : ∀ k, v.ownBlock = some k → u'.heap[k]? = u.heap[k]?) : Row d e u' v xs := R_flat hf h hm fun _ _ => trivial

/-! ### blocks -/
section
variable {u : World} {b t : Nat} {c : Array Value} {z : Nat × Nat}
theorem blk_cell (h : u.heap[b]? = some (.cells c t z)) (i : Nat) : u.cell? ⟨b, i, none⟩ = c[i]? := by unfold World.cell?; rw [h]; rfl
theorem blk_frozen (h : u.heap[b]? = some (.cells c t z)) (i : Nat) : u.frozen? ⟨b, i, none⟩ = (decide (z.1 ≤ i) && decide (i < z.2)) := by unfold World.frozen?; rw [h]
theorem blk_thawed (h : u.heap[b]? = some (.cells c t (0, 0))) (i : Nat) : u.frozen? ⟨b, i, none⟩ = false := by rw [blk_frozen h]; simp
theorem blk_set (h : u.heap[b]? = some (.cells c t z)) (i : Nat) (v : Value) : (u.setCell ⟨b, i, none⟩ v).heap[b]? = some (.cells (c.setIfInBounds i v) t z) := by
  simp only [World.setCell, Array.getElem?_modify, if_true, h]
  rfl
theorem blk_set_ne {a : Addr} (h : b ≠ a.block) (v : Value) : (u.setCell a v).heap[b]? = u.heap[b]? := Below.heap_setCell u a v b h
theorem blk_lt {o : Obj} (h : u.heap[b]? = some o) : b < u.heap.size := (Array.getElem?_eq_some_iff.1 h).1
theorem size_set (a : Addr) (v : Value) : (u.setCell a v).heap.size = u.heap.size := by simp [World.setCell]
theorem size_chan (c' cap : Nat) (buf : Array Value) (cl : Bool) (s r : Nat) (tm : Bool) : (u.setChan c' cap buf cl s r tm).heap.size = u.heap.size := by simp [World.setChan]
end

/-! ### a world of threads -/
/-- What stays while threads go. -/
structure Lay where
  Post : Value → World → Prop
  W : Nat
  back : Nat
  cA : Nat
  cn : Nat
  cc : Nat
  N0 : Nat
  out : Nat
  on : Nat
  sA : Option Addr
  sn : Nat
  sc : Nat
  sched : List Int
  cb : List Nat
  ro : Nat → Option Obj
  os : Os
  outp : Array (Nat × ByteArray)
/-- A thread's own numbers. -/
structure TC where
  st : Int
  cell : Int
  op : Int
  seen : Int
def wCells (L : Lay) (s : Sys) (vth vtr : Value) : Array Value :=
  #[.slice L.sA L.sn L.sc, num s.used, num s.last, .slice (some ⟨L.cA, 0, none⟩) L.cn L.cc, vth, vtr, .bool s.stuck, .bool true, .chan (some L.back)]
def tCells (W : Nat) (i : Int) (g : Nat) (t : TC) : Array Value := #[ptr W, num i, .chan (some g), num t.st, num t.cell, num t.op, num t.seen]
def cCells (k v : Int) : Array Value := #[num k, num v]

/-- The blocks of the world itself. -/
def sysb (L : Lay) (ts : List (Nat × Nat)) (vth vtr : Value) (b : Nat) : Prop :=
  b = L.W ∨ b = L.back ∨ b = L.cA ∨ b = L.out ∨ b ∈ L.cb ∨ (∃ p ∈ ts, b = p.1 ∨ b = p.2) ∨ vth.ownBlock = some b ∨ vtr.ownBlock = some b

structure Rep (L : Lay) (ts : List (Nat × Nat)) (tc : Nat → TC) (s : Sys) (vth vtr : Value) (oc : Array Value) (u : World) : Prop where
  os : u.os = L.os
  outp : u.output = L.outp
  w : u.heap[L.W]? = some (.cells (wCells L s vth vtr) 80 (8, 9))
  t : ∀ (i : Nat) (p : Nat × Nat), ts[i]? = some p → u.heap[p.1]? = some (.cells (tCells L.W i p.2 (tc i)) 92 (2, 3))
  c : ∀ (k b : Nat), L.cb[k]? = some b → u.heap[b]? = some (.cells (cCells k (s.vals.getD k 0)) 105 (0, 0))
  th : Row kP 45 u vth (ts.map (·.1))
  tr : Row k40 40 u vtr s.trace
  ch : Row kI 3 u (.slice (some ⟨L.cA, 0, none⟩) L.cn L.cc) s.chg
  o : u.heap[L.out]? = some (.cells oc 31 (0, 0))
  back : open0 u L.back
  goes : ∀ p ∈ ts, open0 u p.2
  nlen : s.chg.length = L.cn
  vlen : s.vals.length = L.cn
  clen : L.cb.length = L.cn
  olen : oc.size = L.on
  nodup : (L.back :: ts.map (·.2)).Nodup
  in64 : ∀ v ∈ s.vals, In64 v
  chb : ∀ x ∈ s.chg, 0 ≤ x ∧ x ≤ s.trace.length

section
variable {L : Lay} {ts : List (Nat × Nat)} {tc : Nat → TC} {s : Sys} {vth vtr : Value} {oc : Array Value} {u u' : World}

theorem Rep.thinj (h : Rep L ts tc s vth vtr oc u) {i j : Nat} {p q : Nat × Nat} (hi : ts[i]? = some p) (hj : ts[j]? = some q) (e : p.1 = q.1) : i = j := by
  have h1 := h.t i p hi
  have h2 := h.t j q hj
  rw [e, h2] at h1
  injection h1 with h1
  injection h1 with h1
  have := congrArg (fun a : Array Value => a[1]?) h1
  simp [tCells] at this
  omega
theorem Rep.cinj (h : Rep L ts tc s vth vtr oc u) {i j : Nat} {b : Nat} (hi : L.cb[i]? = some b) (hj : L.cb[j]? = some b) : i = j := by
  have h1 := h.c i b hi
  have h2 := h.c j b hj
  rw [h2] at h1
  injection h1 with h1
  injection h1 with h1
  have := congrArg (fun a : Array Value => a[0]?) h1
  simp [cCells] at this
  omega

/-- Memory of another kind is another block. -/
theorem ne_of_ty {u : World} {a b t t' : Nat} {c c' : Array Value} {z z' : Nat × Nat} (h : u.heap[a]? = some (.cells c t z)) (h' : u.heap[b]? = some (.cells c' t' z')) (e : t ≠ t') : a ≠ b := by
  rintro rfl
  rw [h] at h'
  injection h' with h'
  injection h' with _ h' _
  exact e h'
theorem ne_of_chan {u : World} {a b t : Nat} {c : Array Value} {z : Nat × Nat} (h : u.heap[a]? = some (.cells c t z)) (h' : open0 u b) : a ≠ b := by
  rintro rfl
  obtain ⟨k, h'⟩ := h'
  rw [h] at h'
  cases h'
theorem own_ty {α : Type} {d : Kd α} {e : Nat} {v : Value} {xs : List α} (h : Row d e u v xs) {k : Nat} (hk : v.ownBlock = some k) : ∃ c, u.heap[k]? = some (.cells c e (0, 0)) := Kd.R_typed h k hk

/-- All is as it was, if the world's own blocks are. -/
theorem Rep.move (h : Rep L ts tc s vth vtr oc u) (hb : ∀ b, sysb L ts vth vtr b → u'.heap[b]? = u.heap[b]?) (hos : u'.os = u.os) (hout : u'.output = u.output) : Rep L ts tc s vth vtr oc u' where
  os := hos.trans h.os
  outp := hout.trans h.outp
  w := (hb _ (.inl rfl)).trans h.w
  t i p hp := (hb _ (.inr (.inr (.inr (.inr (.inr (.inl ⟨p, List.mem_of_getElem? hp, .inl rfl⟩))))))).trans (h.t i p hp)
  c k b hk := (hb _ (.inr (.inr (.inr (.inr (.inl (List.mem_of_getElem? hk))))))).trans (h.c k b hk)
  th := Row.move flat_kP h.th fun k hk => hb _ (.inr (.inr (.inr (.inr (.inr (.inr (.inl hk)))))))
  tr := Row.move flat_k40 h.tr fun k hk => hb _ (.inr (.inr (.inr (.inr (.inr (.inr (.inr hk)))))))
  ch := Row.move flat_kI h.ch fun k hk => hb _ (.inr (.inr (.inl (by simpa [Value.ownBlock] using hk.symm))))
  o := (hb _ (.inr (.inr (.inr (.inl rfl))))).trans h.o
  back := by obtain ⟨k, hk⟩ := h.back; exact ⟨k, (hb _ (.inr (.inl rfl))).trans hk⟩
  goes p hp := by obtain ⟨k, hk⟩ := h.goes p hp; exact ⟨k, (hb _ (.inr (.inr (.inr (.inr (.inr (.inl ⟨p, hp, .inr rfl⟩))))))).trans hk⟩
  nlen := h.nlen
  vlen := h.vlen
  clen := h.clen
  olen := h.olen
  nodup := h.nodup
  in64 := h.in64
  chb := h.chb
end
end Go.Proofs.Ytoabkcalphpkhaa

/- Who goes, who sits, who owns what: the state of a Play between any two steps of the one that goes. -/
namespace Go.Proofs.Ytoabkcalphpkhaa
open Go Go.Conc Go.RowKit
open Go.Proofs.YtoabkcalphpkhaaW.PrintWords
set_option linter.unusedVariables false
set_option linter.unusedSimpArgs false
set_option linter.unusedSectionVars false

/-! ### the plain functions -/
def plainL : List FuncId := [108, 84, 128, 129, 16, 60, 49, 74, 18, 34, 44, 58, 95, 63]
def S0 : FuncId → Bool := fun f => plainL.contains f
theorem plain_ok : (plainL.all fun f => bodied Try.prog f && (match (Try.prog.funcs[f]?).bind (·.body) with | some c => codeOk Try.prog true S0 c | none => false)) = true := by kernel_rfl
theorem never_ready : (Try.prog.funcs.toList.all fun f => (f.body.map readies).all (·.isEmpty)) = true := by kernel_rfl
theorem list0 : ListOk Try.prog true S0 where
  bodied f hf := by
    have := List.all_eq_true.1 plain_ok f (by simpa [S0] using hf)
    simp only [Bool.and_eq_true] at this
    exact this.1
  code f hf c hc := by
    have := List.all_eq_true.1 plain_ok f (by simpa [S0] using hf)
    simp only [Bool.and_eq_true, hc] at this
    exact this.2
  ahead := by kernel_rfl
  ready g := by
    unfold Program.stepOf
    rw [Array.findIdx?_eq_none_iff]
    intro f hf
    have := List.all_eq_true.1 never_ready f (by simpa using hf)
    cases hb : f.body with
    | none => rfl
    | some c =>
      rw [hb] at this
      have h2 : readies c = [] := by simpa using this
      simp [h2]

/-! ### seats, guards, contexts -/
def seatT (p : Nat × Nat) (r : Goroutine) : Seat := ⟨p.2, .agg #[], r, [(⟨p.1, 2, none⟩, .chan (some p.2))]⟩
def seatM (L : Lay) (r : Goroutine) : Seat := ⟨L.back, .agg #[], r, [(⟨L.W, 8, none⟩, .chan (some L.back))]⟩
def seatAt (L : Lay) (ts : List (Nat × Nat)) (pks : List Park) (recs : Nat → Goroutine) (j : Nat) : Option Seat :=
  match ts[j]?, pks[j]? with
  | some p, some pk => if pk.sits then some (seatT p (recs j)) else none
  | _, _ => none
def seats (L : Lay) (ts : List (Nat × Nat)) (pks : List Park) (recs : Nat → Goroutine) (m : Option Goroutine) : Seats := fun x =>
  if x = 0 then m.map (seatM L) else if x < L.N0 then none else seatAt L ts pks recs (x - L.N0)
def gd (L : Lay) (ts : List (Nat × Nat)) : Guard := fun b => if b ∈ ts.map (·.1) then some (2, 3) else if b = L.W then some (8, 9) else none

theorem seatAt_some {L : Lay} {ts : List (Nat × Nat)} {pks : List Park} {recs : Nat → Goroutine} {j : Nat} {s : Seat} (h : seatAt L ts pks recs j = some s) : ∃ p pk, ts[j]? = some p ∧ pks[j]? = some pk ∧ pk.sits = true ∧ s = seatT p (recs j) := by
  unfold seatAt at h
  split at h
  · rename_i p pk h1 h2
    split at h
    · rename_i h3
      cases h
      exact ⟨p, pk, h1, h2, h3, rfl⟩
    · cases h
  · cases h
theorem seats_cover {L : Lay} {ts : List (Nat × Nat)} {pks : List Park} {recs : Nat → Goroutine} {m : Option Goroutine} (hW : L.W ∉ ts.map (·.1)) : ∀ i s, seats L ts pks recs m i = some s → ∀ p ∈ s.cells, (gd L ts).has p.1 := by
  intro i s h p hp
  unfold seats at h
  split at h
  · obtain ⟨r, _, rfl⟩ := Option.map_eq_some_iff.1 h
    simp only [seatM, List.mem_singleton] at hp
    subst hp
    exact ⟨(8, 9), by unfold gd; rw [if_neg hW, if_pos rfl], by simp, by simp⟩
  · split at h
    · cases h
    · obtain ⟨q, pk, h1, h2, h3, rfl⟩ := seatAt_some h
      simp only [seatT, List.mem_singleton] at hp
      subst hp
      refine ⟨(2, 3), ?_, by simp, by simp⟩
      unfold gd
      rw [if_pos (List.mem_map_of_mem (List.mem_of_getElem? h1))]
def ctxOf (L : Lay) (ts : List (Nat × Nat)) (pks : List Park) (recs : Nat → Goroutine) (m : Option Goroutine) (h : Nat) (hW : L.W ∉ ts.map (·.1)) : Ctx Try.prog where
  Post := L.Post
  N := L.N0 + ts.length
  h := h
  I := seats L ts pks recs m
  Gd := gd L ts
  fz := true
  S := S0
  list := list0
  thaw h := by cases h
  cover := seats_cover hW
theorem next_eq {L : Lay} {ts : List (Nat × Nat)} {pks pks' : List Park} {recs recs' : Nat → Goroutine} {m m' : Option Goroutine} {h h' : Nat} {hW : L.W ∉ ts.map (·.1)} {I' : Seats} (hc) (e : I' = seats L ts pks' recs' m') :
    (ctxOf L ts pks recs m h hW).next (ctxOf L ts pks recs m h hW).N h' I' hc = ctxOf L ts pks' recs' m' h' hW := by
  subst e; rfl

/-! ### who owns what -/
structure Heaps (Cl : Nat → Nat → Option Obj) (F : Nat → Prop) (sys : Nat → Prop) (u : World) : Prop where
  cl : ∀ j b o, Cl j b = some o → u.heap[b]? = some o
  cls : ∀ j b o, Cl j b = some o → ¬ sys b
  dis : ∀ i j b o o', Cl i b = some o → Cl j b = some o' → i = j
  fr : ∀ b, F b → b < u.heap.size ∧ ¬ sys b ∧ ∀ j, Cl j b = none
section
variable {Cl : Nat → Nat → Option Obj} {F F' : Nat → Prop} {sys sys' : Nat → Prop} {u u' : World}
theorem Heaps.step (h : Heaps Cl F sys u) (hs : ∀ b, sys' b → sys b ∨ u.heap.size ≤ b) (hb : ∀ b, ¬ sys b → ¬ F b → b < u.heap.size → u'.heap[b]? = u.heap[b]?) (hsz : u.heap.size ≤ u'.heap.size) : Heaps Cl F sys' u' := by
  have hlt : ∀ j b o, Cl j b = some o → b < u.heap.size := fun j b o ho => blk_lt (h.cl j b o ho)
  refine ⟨fun j b o ho => (hb b (h.cls j b o ho) (fun hf => by rw [(h.fr b hf).2.2 j] at ho; cases ho) (hlt j b o ho)).trans (h.cl j b o ho), fun j b o ho hs' => ?_, h.dis, fun b hf => ⟨Nat.lt_of_lt_of_le (h.fr b hf).1 hsz, fun hs' => ?_, (h.fr b hf).2.2⟩⟩
  · rcases hs b hs' with h1 | h1
    · exact h.cls j b o ho h1
    · exact absurd (hlt j b o ho) (by omega)
  · rcases hs b hs' with h1 | h1
    · exact (h.fr b hf).2.1 h1
    · exact absurd (h.fr b hf).1 (by omega)
theorem Heaps.less (h : Heaps Cl F sys u) (hf : ∀ b, F' b → F b) : Heaps Cl F' sys u := ⟨h.cl, h.cls, h.dis, fun b hb => h.fr b (hf b hb)⟩
end

/-! ### parks -/
def parkNums : Park → TC → Prop
  | .want c op _ _, t => t.st = 1 ∧ t.cell = c ∧ t.op = op
  | .wait c seen _, t => t.st = 2 ∧ t.cell = c ∧ t.seen = seen
  | .ended _, t => t.st = 3
  | .bad, _ => True
def procNums : Stat → TC → Prop
  | .mid c op _ _, t => t.cell = c ∧ t.op = op
  | .did c op _ _ _, t => t.cell = c ∧ t.op = op
  | _, _ => True
/-- The answers of a thread that has ended stand at its place; they are its own. -/
def finOk (h : Nat → Option Obj) (j : Nat) (out : List Ans) (oc : Array Value) : Prop :=
  ∃ v, oc[j]? = some v ∧ ∀ w : World, (∀ b o, h b = some o → w.heap[b]? = some o) → kA.R 34 w 0 (fun b => ∃ o, h b = some o) v out
abbrev PQ := Nat → Nat → Park → Goroutine → (Nat → Option Obj) → Prop
def roomB : Nat := 1099511627776
def KOk (K : Sys → List Park → Prop) : Prop := ∀ s pks, K s pks → s.trace.length ≤ roomB ∧ ∀ pk ∈ pks, pk.isBad = false

structure Held (L : Lay) (Q : PQ) (ts : List (Nat × Nat)) (tc : Nat → TC) (s : Sys) (vth vtr : Value) (oc : Array Value) (pks : List Park) (recs : Nat → Goroutine) (Cl : Nat → Nat → Option Obj) (F : Nat → Prop) (u : World) : Prop where
  lens : pks.length = ts.length
  rep : Rep L ts tc s vth vtr oc u
  heaps : Heaps Cl F (sysb L ts vth vtr) u
  ro : Cl 0 = L.ro
  idle : ∀ j, ts.length ≤ j → ∀ b, Cl (j + 1) b = none
  N0 : 0 < L.N0
  ton : ts.length ≤ L.on
  par : ∀ (j : Nat) (p : Nat × Nat) (pk : Park), ts[j]? = some p → pks[j]? = some pk → parkNums pk (tc j) ∧ (pk.sits = true → Q j p.1 pk (recs j) (Cl (j + 1))) ∧ ∀ out, pk = .ended out → finOk (Cl (j + 1)) j out oc

theorem Held.hW {L : Lay} {Q : PQ} {ts : List (Nat × Nat)} {tc : Nat → TC} {s : Sys} {vth vtr : Value} {oc : Array Value} {pks : List Park} {recs : Nat → Goroutine} {Cl : Nat → Nat → Option Obj} {F : Nat → Prop} {u : World}
    (h : Held L Q ts tc s vth vtr oc pks recs Cl F u) : L.W ∉ ts.map (·.1) := by
  intro hm
  obtain ⟨p, hp, e⟩ := List.mem_map.1 hm
  obtain ⟨i, hi⟩ := List.mem_iff_getElem?.1 hp
  exact ne_of_ty (h.rep.t i p hi) h.rep.w (by decide) e

/-- Main goes: all threads sit, or have ended. -/
def MainAt (L : Lay) (Q : PQ) (K : Sys → List Park → Prop) (u : World) (C : Ctx Try.prog) : Prop :=
  ∃ ts tc s vth vtr oc pks recs Cl, ∃ h : Held L Q ts tc s vth vtr oc pks recs Cl (fun _ => False) u, C = ctxOf L ts pks recs none 0 h.hW ∧ K s pks
/-- What main's record does. -/
def MainOK (L : Lay) (Q : PQ) (r0 : Goroutine) (K : Sys → List Park → Prop) : Prop := ∃ fr fs, r0 = gr fr fs ∧ ∀ u C, MainAt L Q K u C → Wn C (fr.finish (.agg #[])) fs u

structure Going (L : Lay) (Q : PQ) (i T g : Nat) (p : Stat) (F : Nat → Prop) (u : World) (ts : List (Nat × Nat)) (tc : Nat → TC) (s : Sys) (vth vtr : Value) (oc : Array Value) (pks : List Park) (recs : Nat → Goroutine) (r0 : Goroutine) (K : Sys → List Park → Prop) (Cl : Nat → Nat → Option Obj) : Prop where
  held : Held L Q ts tc s vth vtr oc pks recs Cl F u
  me : ts[i]? = some (T, g)
  mine : pks[i]? = some .bad
  free : ∀ b, Cl (i + 1) b = none
  nums : procNums p (tc i)
  main : MainOK L Q r0 K
  ok : KOk K
  go : K (advS i p s).1 (pks.set i (advS i p s).2)

/-- Thread i goes. -/
def AtF (L : Lay) (Q : PQ) (i T : Nat) (p : Stat) (F : Nat → Prop) (u : World) (C : Ctx Try.prog) : Prop :=
  ∃ g ts tc s vth vtr oc pks recs r0 K Cl, ∃ h : Going L Q i T g p F u ts tc s vth vtr oc pks recs r0 K Cl, C = ctxOf L ts pks recs (some r0) (L.N0 + i) h.held.hW

/-- A record that sits: whenever it is resumed, with fewer turns to come, it goes on well. -/
def Qn (L : Lay) : Nat → PQ
  | 0 => fun _ _ _ r _ => ∃ fr fs, r = gr fr fs
  | n + 1 => fun j T pk r h => Qn L n j T pk r h ∧ ∃ fr fs, r = gr fr fs ∧ ∀ F u C, AtF L (Qn L n) j T pk.resume F u C → (∀ b o, h b = some o → F b ∧ u.heap[b]? = some o) → Wn C (fr.finish (.agg #[])) fs u
theorem Qn_intro {L : Lay} {j T : Nat} {pk : Park} {r : Goroutine} {h : Nat → Option Obj} {fr : Frame} {fs : List Frame} (hr : r = gr fr fs)
    (hall : ∀ m F u C, AtF L (Qn L m) j T pk.resume F u C → (∀ b o, h b = some o → F b ∧ u.heap[b]? = some o) → Wn C (fr.finish (.agg #[])) fs u) : ∀ n, Qn L n j T pk r h
  | 0 => ⟨fr, fs, hr⟩
  | n + 1 => ⟨Qn_intro hr hall n, fr, fs, hr, hall n⟩

/-- Blocks of one's own stay. -/
def Keep (F : Nat → Prop) (u u' : World) : Prop := ∀ b, F b → u'.heap[b]? = u.heap[b]?
theorem Keep.refl (F : Nat → Prop) (u : World) : Keep F u u := fun _ _ => rfl
theorem Keep.trans {F : Nat → Prop} {a b c : World} (h : Keep F a b) (h' : Keep F b c) : Keep F a c := fun x hx => (h' x hx).trans (h x hx)

/-- Thread i goes, however many turns are to come. -/
def WAt (L : Lay) (i T : Nat) (p : Stat) (F : Nat → Prop) (u : World) (C : Ctx Try.prog) : Prop := ∃ n, AtF L (Qn L n) i T p F u C
end Go.Proofs.Ytoabkcalphpkhaa

/- What the steps of a Play turn in a world of threads: a thread's numbers, a channel, the world's block, a cell, a counter, the trace. -/
namespace Go.Proofs.Ytoabkcalphpkhaa
open Go Go.Conc Go.RowKit
open Go.Proofs.YtoabkcalphpkhaaW.PrintWords
set_option linter.unusedVariables false
set_option linter.unusedSimpArgs false
set_option linter.unusedSectionVars false

section
variable {L : Lay} {ts : List (Nat × Nat)} {tc : Nat → TC} {s : Sys} {vth vtr : Value} {oc : Array Value} {u u' : World}

/-- Facts of separation. -/
theorem Rep.nW_T (h : Rep L ts tc s vth vtr oc u) {i : Nat} {p : Nat × Nat} (hp : ts[i]? = some p) : L.W ≠ p.1 := ne_of_ty h.w (h.t i p hp) (by decide)
theorem Rep.no_T (h : Rep L ts tc s vth vtr oc u) {i : Nat} {p : Nat × Nat} (hp : ts[i]? = some p) : L.out ≠ p.1 := ne_of_ty h.o (h.t i p hp) (by decide)
theorem Rep.nc_T (h : Rep L ts tc s vth vtr oc u) {i k b : Nat} {p : Nat × Nat} (hp : ts[i]? = some p) (hk : L.cb[k]? = some b) : b ≠ p.1 := ne_of_ty (h.c k b hk) (h.t i p hp) (by decide)
theorem own_ne {α : Type} {d : Kd α} {e t b : Nat} {v : Value} {xs : List α} {c : Array Value} {z : Nat × Nat} (h : Row d e u v xs) (hb : u.heap[b]? = some (.cells c t z)) (ht : e ≠ t) {k : Nat} (hk : v.ownBlock = some k) : k ≠ b := by
  obtain ⟨c', h'⟩ := own_ty h hk
  exact ne_of_ty h' hb ht
theorem own_chan {α : Type} {d : Kd α} {e b : Nat} {v : Value} {xs : List α} (h : Row d e u v xs) (hb : open0 u b) {k : Nat} (hk : v.ownBlock = some k) : k ≠ b := by
  obtain ⟨c', h'⟩ := own_ty h hk
  exact ne_of_chan h' hb

theorem Rep.thread (h : Rep L ts tc s vth vtr oc u) {i : Nat} {p : Nat × Nat} (hp : ts[i]? = some p) {t' : TC} (hT : u'.heap[p.1]? = some (.cells (tCells L.W i p.2 t') 92 (2, 3))) (ho : ∀ b, b ≠ p.1 → u'.heap[b]? = u.heap[b]?) (hos : u'.os = u.os) (hout : u'.output = u.output) :
    Rep L ts (fun j => if j = i then t' else tc j) s vth vtr oc u' := by
  have hTo := h.t i p hp
  refine { os := hos.trans h.os, outp := hout.trans h.outp, w := (ho _ (h.nW_T hp)).trans h.w, t := fun j q hq => ?_, c := fun k b hk => (ho _ (h.nc_T hp hk)).trans (h.c k b hk), th := Row.move flat_kP h.th fun k hk => ho _ (own_ne h.th hTo (by decide) hk),
           tr := Row.move flat_k40 h.tr fun k hk => ho _ (own_ne h.tr hTo (by decide) hk), ch := Row.move flat_kI h.ch fun k hk => ho _ (own_ne h.ch hTo (by decide) hk), o := (ho _ (h.no_T hp)).trans h.o, back := ?_, goes := fun q hq => ?_,
           nlen := h.nlen, vlen := h.vlen, clen := h.clen, olen := h.olen, nodup := h.nodup, in64 := h.in64, chb := h.chb }
  · by_cases e : j = i
    · subst e
      rw [hp] at hq
      obtain rfl := Option.some.inj hq
      rw [if_pos rfl]
      exact hT
    · rw [if_neg e, ho q.1 (fun e' => e (h.thinj hq hp e'))]
      exact h.t j q hq
  · obtain ⟨k, hk⟩ := h.back
    exact ⟨k, (ho _ (Ne.symm (ne_of_chan hTo h.back))).trans hk⟩
  · obtain ⟨k, hk⟩ := h.goes q hq
    exact ⟨k, (ho _ (Ne.symm (ne_of_chan hTo (h.goes q hq)))).trans hk⟩

theorem open0_chan {c c' k : Nat} (hc : open0 u c) (h : open0 u c') : open0 (u.setChan c 0 #[] false k k false) c' := by
  by_cases e : c = c'
  · subst e
    obtain ⟨k', hk⟩ := hc
    exact ⟨k, heap_setChan_self u hk _ _ _ _ _ _⟩
  · obtain ⟨k', hk⟩ := h
    exact ⟨k', by rw [heap_setChan_ne u _ _ _ _ _ _ e]; exact hk⟩
theorem Rep.chan (h : Rep L ts tc s vth vtr oc u) {c k : Nat} (hc : open0 u c) : Rep L ts tc s vth vtr oc (u.setChan c 0 #[] false k k false) := by
  have cells : ∀ {b t : Nat} {ca : Array Value} {z : Nat × Nat}, u.heap[b]? = some (.cells ca t z) → (u.setChan c 0 #[] false k k false).heap[b]? = u.heap[b]? := fun hb => heap_setChan_ne u _ _ _ _ _ _ (Ne.symm (ne_of_chan hb hc))
  refine { os := h.os, outp := h.outp, w := (cells h.w).trans h.w, t := fun j q hq => (cells (h.t j q hq)).trans (h.t j q hq), c := fun k b hk => (cells (h.c k b hk)).trans (h.c k b hk), th := Row.move flat_kP h.th fun k hk => ?_,
           tr := Row.move flat_k40 h.tr fun k hk => ?_, ch := Row.move flat_kI h.ch fun k hk => ?_, o := (cells h.o).trans h.o, back := open0_chan hc h.back, goes := fun q hq => open0_chan hc (h.goes q hq),
           nlen := h.nlen, vlen := h.vlen, clen := h.clen, olen := h.olen, nodup := h.nodup, in64 := h.in64, chb := h.chb }
  · obtain ⟨c', h'⟩ := own_ty h.th hk; exact cells h'
  · obtain ⟨c', h'⟩ := own_ty h.tr hk; exact cells h'
  · obtain ⟨c', h'⟩ := own_ty h.ch hk; exact cells h'

/-- The world's own block turns, and the trace; the rest is as it was. -/
theorem Rep.world (h : Rep L ts tc s vth vtr oc u) {s' : Sys} {vtr' : Value} (hW : u'.heap[L.W]? = some (.cells (wCells L s' vth vtr') 80 (8, 9))) (htr : Row k40 40 u' vtr' s'.trace)
    (ho : ∀ b, b < u.heap.size → b ≠ L.W → vtr.ownBlock ≠ some b → u'.heap[b]? = u.heap[b]?) (hv : s'.vals = s.vals) (hc : s'.chg = s.chg) (hlen : s.trace.length ≤ s'.trace.length) (hos : u'.os = u.os) (hout : u'.output = u.output) : Rep L ts tc s' vth vtr' oc u' := by
  have cells : ∀ {b t : Nat} {ca : Array Value} {z : Nat × Nat}, u.heap[b]? = some (.cells ca t z) → t ≠ 80 → t ≠ 40 → u'.heap[b]? = u.heap[b]? := fun hb h8 h4 => ho _ (blk_lt hb) (ne_of_ty hb h.w h8) fun e => own_ne h.tr hb (Ne.symm h4) e rfl
  have chans : ∀ {b : Nat}, open0 u b → open0 u' b := by
    intro b hb
    have hb' := hb
    obtain ⟨k, hk⟩ := hb'
    exact ⟨k, (ho b (blk_lt hk) (Ne.symm (ne_of_chan h.w hb)) fun e => own_chan h.tr hb e rfl).trans hk⟩
  refine { os := hos.trans h.os, outp := hout.trans h.outp, w := hW, t := fun j q hq => (cells (h.t j q hq) (by decide) (by decide)).trans (h.t j q hq), c := fun k b hk => ?_, th := Row.move flat_kP h.th fun k hk => ?_,
           tr := htr, ch := by rw [hc]; exact Row.move flat_kI h.ch fun k hk => (by obtain ⟨c', h'⟩ := own_ty h.ch hk; exact cells h' (by decide) (by decide)), o := (cells h.o (by decide) (by decide)).trans h.o, back := chans h.back, goes := fun q hq => chans (h.goes q hq),
           nlen := by rw [hc]; exact h.nlen, vlen := by rw [hv]; exact h.vlen, clen := h.clen, olen := h.olen, nodup := h.nodup, in64 := by rw [hv]; exact h.in64, chb := by rw [hc]; exact fun x hx => ⟨(h.chb x hx).1, Int.le_trans (h.chb x hx).2 (by omega)⟩ }
  · rw [hv]; exact (cells (h.c k b hk) (by decide) (by decide)).trans (h.c k b hk)
  · obtain ⟨c', h'⟩ := own_ty h.th hk; exact cells h' (by decide) (by decide)

/-- A cell's value turns. -/
theorem Rep.value (h : Rep L ts tc s vth vtr oc u) {c b : Nat} {v : Int} (hb : L.cb[c]? = some b) (hv : In64 v) : Rep L ts tc (s.put c v) vth vtr oc (u.setCell ⟨b, 1, none⟩ (num v)) := by
  have hcb := h.c c b hb
  have ho : ∀ k, k ≠ b → (u.setCell ⟨b, 1, none⟩ (num v)).heap[k]? = u.heap[k]? := fun k hk => blk_set_ne (a := ⟨b, 1, none⟩) hk _
  have cells : ∀ {k t : Nat} {ca : Array Value} {z : Nat × Nat}, u.heap[k]? = some (.cells ca t z) → t ≠ 105 → (u.setCell ⟨b, 1, none⟩ (num v)).heap[k]? = u.heap[k]? := fun hk ht => ho _ (ne_of_ty hk hcb ht)
  have chans : ∀ {k : Nat}, open0 u k → open0 (u.setCell ⟨b, 1, none⟩ (num v)) k := fun hk => open0_setCell hk
  have hlt : c < s.vals.length := by
    have := (List.getElem?_eq_some_iff.1 hb).1
    rw [h.clen] at this
    rw [h.vlen]; exact this
  refine { os := h.os, outp := h.outp, w := (cells h.w (by decide)).trans h.w, t := fun j q hq => (cells (h.t j q hq) (by decide)).trans (h.t j q hq), c := fun k b' hk => ?_, th := Row.move flat_kP h.th fun k hk => ?_,
           tr := Row.move flat_k40 h.tr fun k hk => ?_, ch := Row.move flat_kI h.ch fun k hk => ?_, o := (cells h.o (by decide)).trans h.o, back := chans h.back, goes := fun q hq => chans (h.goes q hq),
           nlen := h.nlen, vlen := by simp [Sys.put, h.vlen], clen := h.clen, olen := h.olen, nodup := h.nodup, in64 := fun x hx => ?_, chb := h.chb }
  · by_cases e : k = c
    · subst e
      rw [hb] at hk
      obtain rfl := Option.some.inj hk
      rw [blk_set hcb]
      simp [Sys.put, cCells, hlt, List.getD_eq_getElem?_getD]
    · rw [ho b' (fun e' => e (by rw [e'] at hk; exact h.cinj hk hb))]
      have := h.c k b' hk
      rw [this]
      simp [Sys.put, List.getD_eq_getElem?_getD, List.getElem?_set_ne (Ne.symm e)]
  · obtain ⟨c', h'⟩ := own_ty h.th hk; exact cells h' (by decide)
  · obtain ⟨c', h'⟩ := own_ty h.tr hk; exact cells h' (by decide)
  · obtain ⟨c', h'⟩ := own_ty h.ch hk; exact cells h' (by decide)
  · rcases List.mem_or_eq_of_mem_set hx with hx | rfl
    · exact h.in64 x hx
    · exact hv

/-- A counter turns. -/
theorem Rep.counter (h : Rep L ts tc s vth vtr oc u) {c : Nat} {x : Int} (hx : 0 ≤ x ∧ x ≤ s.trace.length) : Rep L ts tc { s with chg := s.chg.set c x } vth vtr oc (u.setCell ⟨L.cA, c, none⟩ (num x)) := by
  obtain ⟨ca, hca⟩ := own_ty h.ch (k := L.cA) rfl
  have ho : ∀ k, k ≠ L.cA → (u.setCell ⟨L.cA, c, none⟩ (num x)).heap[k]? = u.heap[k]? := fun k hk => blk_set_ne (a := ⟨L.cA, c, none⟩) hk _
  have cells : ∀ {k t : Nat} {cc : Array Value} {z : Nat × Nat}, u.heap[k]? = some (.cells cc t z) → t ≠ 3 → (u.setCell ⟨L.cA, c, none⟩ (num x)).heap[k]? = u.heap[k]? := fun hk ht => ho _ (ne_of_ty hk hca ht)
  have chans : ∀ {k : Nat}, open0 u k → open0 (u.setCell ⟨L.cA, c, none⟩ (num x)) k := fun hk => open0_setCell hk
  have hput := Kd.R_put (enc := num) (g := L.cA) (W := u) (e := 3) (base := 0) (ok := fun _ => True) (xs := s.chg) (cap := L.cc) (by rw [h.nlen]; exact h.ch) (c : Int) x
  refine { os := h.os, outp := h.outp, w := (cells h.w (by decide)).trans h.w, t := fun j q hq => (cells (h.t j q hq) (by decide)).trans (h.t j q hq), c := fun k b' hk => (cells (h.c k b' hk) (by decide)).trans (h.c k b' hk), th := Row.move flat_kP h.th fun k hk => ?_,
           tr := Row.move flat_k40 h.tr fun k hk => ?_, ch := ?_, o := (cells h.o (by decide)).trans h.o, back := chans h.back, goes := fun q hq => chans (h.goes q hq),
           nlen := by simp [h.nlen], vlen := h.vlen, clen := h.clen, olen := h.olen, nodup := h.nodup, in64 := h.in64, chb := fun y hy => (List.mem_or_eq_of_mem_set hy).elim (h.chb y) fun e => e ▸ hx }
  · obtain ⟨c', h'⟩ := own_ty h.th hk; exact cells h' (by decide)
  · obtain ⟨c', h'⟩ := own_ty h.tr hk; exact cells h' (by decide)
  · have := hput.1
    rw [h.nlen] at this
    simpa using this
end
end Go.Proofs.Ytoabkcalphpkhaa

/- A thread gives its turn back: it sits, main goes on. -/
namespace Go.Proofs.Ytoabkcalphpkhaa
open Go Go.Conc Go.RowKit
open Go.Proofs.YtoabkcalphpkhaaW.PrintWords
set_option linter.unusedVariables false
set_option linter.unusedSimpArgs false
set_option linter.unusedSectionVars false

theorem nums_of_row {u : World} {A : Option Addr} {n cp : Nat} {xs : List Int} (h : Row kI 3 u (.slice A n cp) xs) : Nums u A n xs ∧ n ≤ 9223372036854775807 := by
  obtain ⟨A', c', he, hle, hr⟩ := Kd.R_reads h
  injection he with e1 e2 e3
  subst e1; subst e2
  refine ⟨⟨rfl, fun i hi => ?_⟩, hr.2.1⟩
  obtain ⟨ad, e, hc⟩ := hr.2.2 (by omega)
  refine ⟨ad, e, ?_⟩
  obtain ⟨c, _, hR, hcell⟩ := hc i (xs.getD i 0) (by rw [List.getD_eq_getElem?_getD]; simp [List.getElem?_eq_getElem hi])
  have hR' : c = [num (xs.getD i 0)] := hR
  have := hcell 0 (num (xs.getD i 0)) (by rw [hR']; rfl)
  have e1 : i * kI.sz + 0 = i := by show i * 1 + 0 = i; omega
  rw [e1] at this
  exact this
theorem changedOf_nat (xs : List Int) (c : Nat) : changedOf xs c = xs.getD c 0 := by
  unfold changedOf
  split
  · simp
  · rename_i h
    rw [List.getD_eq_getElem?_getD, List.getElem?_eq_none (by omega)]
    rfl

theorem nodup_inj {α : Type} {l : List α} (h : l.Nodup) {i j : Nat} (hi : i < l.length) (hj : j < l.length) (e : l[i] = l[j]) : i = j := by
  have h' := List.pairwise_iff_getElem.1 h
  rcases Nat.lt_trichotomy i j with h1 | h1 | h1
  · exact absurd e (h' i j hi hj h1)
  · exact h1
  · exact absurd e.symm (h' j i hj hi h1)

section
variable {L : Lay} {n : Nat} {i T g : Nat} {p : Stat} {F : Nat → Prop} {u : World} {ts : List (Nat × Nat)} {tc : Nat → TC} {s : Sys} {vth vtr : Value} {oc : Array Value} {pks : List Park} {recs : Nat → Goroutine} {r0 : Goroutine} {K : Sys → List Park → Prop} {Cl : Nat → Nat → Option Obj} {C : Ctx Try.prog}

theorem seatAt_set_ne {pks : List Park} {pk : Park} {recs : Nat → Goroutine} {r : Goroutine} {j : Nat} (hj : j ≠ i) : seatAt L ts (pks.set i pk) (fun x => if x = i then r else recs x) j = seatAt L ts pks recs j := by
  unfold seatAt
  rw [List.getElem?_set_ne (Ne.symm hj)]
  simp only [if_neg hj]
theorem seatAt_set {pks : List Park} {pk : Park} {recs : Nat → Goroutine} {r : Goroutine} {p : Nat × Nat} (hp : ts[i]? = some p) (hl : i < pks.length) (hs : pk.sits = true) : seatAt L ts (pks.set i pk) (fun x => if x = i then r else recs x) i = some (seatT p r) := by
  unfold seatAt
  rw [hp, List.getElem?_set_self hl]
  simp [hs]
theorem seatAt_bad (hm : pks[i]? = some .bad) : seatAt L ts pks recs i = none := by
  unfold seatAt
  rw [hm]
  split
  · rename_i h1 h2
    cases h2
    rfl
  · rfl
theorem seatAt_beyond {j : Nat} (h : ts.length ≤ j) : seatAt L ts pks recs j = none := by
  unfold seatAt
  rw [List.getElem?_eq_none h]

set_option maxHeartbeats 1000000 in
theorem Going.wait (h : Going L (Qn L n) i T g p F u ts tc s vth vtr oc pks recs r0 K Cl) (hC : C = ctxOf L ts pks recs (some r0) (L.N0 + i) h.held.hW) {st op : Int} {c : Nat} {pk : Park} (hsit : pk.sits = true) (hnum : parkNums pk ⟨st, c, op, changedOf s.chg c⟩)
    (hadv : advS i p s = (s, pk)) {fr : Frame} {cs : List Frame}
    (hn : ∀ m F' u' C', AtF L (Qn L m) i T pk.resume F' u' C' → (∀ b, F b → F' b) → Keep F u u' → Wn C' (fr.finish (.tuple #[])) cs u') :
    Wn C (Frame.enter Try.prog 83 #[ptr T, num st, num op, num c] .normal) (fr :: cs) u := by
  subst hC
  have hr := h.held.rep
  have hT := hr.t i _ h.me
  have hWT := hr.nW_T h.me
  have hil : i < ts.length := (List.getElem?_eq_some_iff.1 h.me).1
  have hcell := fun k => blk_cell hT k
  obtain ⟨hnums, hmax⟩ := nums_of_row hr.ch
  obtain ⟨fr0, fs0, hr0, hmain⟩ := h.main
  have hgm : (L.back :: ts.map (·.2)).Nodup := hr.nodup
  have hmem : (T, g) ∈ ts := List.mem_of_getElem? h.me
  have hopen := hr.goes _ hmem
  have hseat : ∀ j, (ctxOf L ts pks recs (some r0) (L.N0 + i) h.held.hW).I j = seats L ts pks recs (some r0) j := fun _ => rfl
  refine wait_sends (C := ctxOf L ts pks recs (some r0) (L.N0 + i) h.held.hW) (u := u) (T := T) (W := L.W) (back := L.back) (st := st) (op := op) (c := c) (g := g) (s0 := seatM L r0) rfl rfl (some ⟨L.cA, 0, none⟩) L.cn L.cc s.chg hmax (hcell 0)
    ((blk_cell hr.w 3).trans rfl) hnums ((hcell 3).trans rfl) ((hcell 4).trans rfl) ((hcell 5).trans rfl) ((hcell 6).trans rfl) (fun k hk => ?_) hWT ((blk_cell hr.w 8).trans rfl) ((hcell 2).trans rfl) (by rw [hseat]; unfold seats; rw [if_pos rfl]; rfl) rfl ?_ hr0 rfl ?_ ?_ (by kernel_rfl) hopen ?_
  · rw [blk_frozen hT]
    simp only [Bool.and_eq_false_iff, decide_eq_false_iff_not]
    right; omega
  · -- the channel is not guarded
    show gd L ts L.back = none
    unfold gd
    rw [if_neg, if_neg (Ne.symm (ne_of_chan hr.w hr.back))]
    intro hm
    obtain ⟨q, hq, e⟩ := List.mem_map.1 hm
    obtain ⟨j, hj⟩ := List.mem_iff_getElem?.1 hq
    exact ne_of_chan (hr.t j q hj) hr.back e
  · intro j s' hj
    rw [hseat] at hj
    unfold seats at hj
    split at hj
    · cases hj
      intro e
      exact (List.nodup_cons.1 hgm).1 (by rw [show L.back = g from e]; exact List.mem_map_of_mem (f := (·.2)) hmem)
    · split at hj
      · cases hj
      · obtain ⟨q, pk', h1, h2, h3, rfl⟩ := seatAt_some hj
        intro e
        have hnd := (List.nodup_cons.1 hgm).2
        have hne : j - L.N0 ≠ i := fun e' => by rw [e', h.mine] at h2; cases h2; cases h3
        have l1 : j - L.N0 < (ts.map (·.2)).length := by rw [List.length_map]; exact (List.getElem?_eq_some_iff.1 h1).1
        have l2 : i < (ts.map (·.2)).length := by rw [List.length_map]; exact hil
        refine hne (nodup_inj hnd l1 l2 ?_)
        have e1 := (List.getElem?_eq_some_iff.1 h1).2
        have e2 := (List.getElem?_eq_some_iff.1 h.me).2
        simp only [List.getElem_map]
        rw [e1, e2]
        exact e
  · refine ⟨(2, 3), ?_, by simp, by simp⟩
    show gd L ts T = some (2, 3)
    unfold gd
    rw [if_pos (List.mem_map_of_mem (f := (·.1)) hmem)]
  · -- main goes on
    rintro r ⟨fr', fs', hrr, hback⟩ hc kk
    have hI : (((ctxOf L ts pks recs (some r0) (L.N0 + i) h.held.hW).I.set (ctxOf L ts pks recs (some r0) (L.N0 + i) h.held.hW).h (some ⟨g, .agg #[], r, [(⟨T, 2, none⟩, .chan (some g))]⟩)).set 0 none) = seats L ts (pks.set i pk) (fun x => if x = i then r else recs x) none := by
      funext x
      unfold Seats.set
      show (if x = 0 then none else if x = L.N0 + i then _ else seats L ts pks recs (some r0) x) = _
      unfold seats
      by_cases e0 : x = 0
      · rw [if_pos e0, if_pos e0]; rfl
      · simp only [if_neg e0]
        by_cases e1 : x = L.N0 + i
        · rw [if_pos e1, if_neg (show ¬ x < L.N0 by omega), e1, Nat.add_sub_cancel_left, seatAt_set h.me (by rw [h.held.lens]; exact hil) hsit]
          rfl
        · rw [if_neg e1]
          split
          · rfl
          · rw [seatAt_set_ne (by omega)]
    rw [next_eq (h' := 0) hc hI]
    refine hmain _ _ ⟨ts, fun j => if j = i then ⟨st, c, op, changedOf s.chg c⟩ else tc j, s, vth, vtr, oc, pks.set i pk, fun x => if x = i then r else recs x, fun j => if j = i + 1 then (fun b => open Classical in if F b then u.heap[b]? else none) else Cl j, ?_, rfl, ?_⟩
    · have hsz : ∀ (a : World), a = (((u.setCell ⟨T, 3, none⟩ (num st)).setCell ⟨T, 5, none⟩ (num op)).setCell ⟨T, 4, none⟩ (num c)).setCell ⟨T, 6, none⟩ (num (changedOf s.chg c)) → (∀ b, b ≠ T → a.heap[b]? = u.heap[b]?) ∧ a.heap[T]? = some (.cells (tCells L.W i g ⟨st, c, op, changedOf s.chg c⟩) 92 (2, 3)) ∧ a.heap.size = u.heap.size ∧ a.os = u.os ∧ a.output = u.output := by
        rintro a rfl
        refine ⟨fun b hb => ?_, ?_, by simp only [size_set], rfl, rfl⟩
        · rw [blk_set_ne hb, blk_set_ne hb, blk_set_ne hb, blk_set_ne hb]
        · rw [blk_set (blk_set (blk_set (blk_set hT 3 _) 5 _) 4 _) 6 _]
          rfl
      generalize hA : (((u.setCell ⟨T, 3, none⟩ (num st)).setCell ⟨T, 5, none⟩ (num op)).setCell ⟨T, 4, none⟩ (num c)).setCell ⟨T, 6, none⟩ (num (changedOf s.chg c)) = A at hsz ⊢
      obtain ⟨ho, hTa, hs, hos, hout⟩ := hsz A rfl
      show Held L (Qn L n) _ _ _ _ _ _ _ _ _ _ (A.setChan L.back 0 #[] false kk kk false)
      have hrA := hr.thread h.me hTa ho hos hout
      have hrB := hrA.chan (k := kk) hrA.back
      have hoB : ∀ b, b ≠ T → b ≠ L.back → (A.setChan L.back 0 #[] false kk kk false).heap[b]? = u.heap[b]? := fun b h1 h2 => (heap_setChan_ne A _ _ _ _ _ _ (Ne.symm h2)).trans (ho b h1)
      have hsT : sysb L ts vth vtr T := .inr (.inr (.inr (.inr (.inr (.inl ⟨_, hmem, .inl rfl⟩)))))
      have hsB : sysb L ts vth vtr L.back := .inr (.inl rfl)
      have hH := h.held.heaps
      refine ⟨by rw [List.length_set]; exact h.held.lens, hrB, ⟨fun j b o ho' => ?_, fun j b o ho' => ?_, fun j j' b o o' h1 h2 => ?_, fun b hb => hb.elim⟩, ?_, fun j hj b => ?_, h.held.N0, h.held.ton, fun j q pk' hq hpk => ?_⟩
      · split at ho'
        · dsimp only at ho'
          split at ho'
          · rename_i hF
            rw [hoB b (fun e => (hH.fr b hF).2.1 (e ▸ hsT)) (fun e => (hH.fr b hF).2.1 (e ▸ hsB))]
            exact ho'
          · cases ho'
        · rw [hoB b (fun e => hH.cls j b o ho' (e ▸ hsT)) (fun e => hH.cls j b o ho' (e ▸ hsB))]
          exact hH.cl j b o ho'
      · split at ho'
        · dsimp only at ho'
          split at ho'
          · rename_i hF
            exact (hH.fr b hF).2.1
          · cases ho'
        · exact hH.cls j b o ho'
      · split at h1
        · dsimp only at h1
          split at h1
          · rename_i ej hF
            split at h2
            · rename_i ej'
              rw [ej, ej']
            · rw [(hH.fr b hF).2.2 j'] at h2; cases h2
          · cases h1
        · split at h2
          · dsimp only at h2
            split at h2
            · rename_i hF
              rw [(hH.fr b hF).2.2 j] at h1; cases h1
            · cases h2
          · exact hH.dis j j' b o o' h1 h2
      · simp only [if_neg (show ¬ (0 = i + 1) by omega)]
        exact h.held.ro
      · simp only [if_neg (show ¬ (j + 1 = i + 1) by omega)]
        exact h.held.idle j hj b
      · by_cases ej : j = i
        · subst ej
          rw [List.getElem?_set_self (by rw [h.held.lens]; exact hil)] at hpk
          obtain rfl := Option.some.inj hpk
          rw [h.me] at hq
          obtain rfl := Option.some.inj hq
          simp only [if_pos rfl]
          refine ⟨hnum, fun _ => Qn_intro hrr (fun m F' u' C' hat hcl => hback C' u' ?_) n, fun out e => by rw [e] at hsit; cases hsit⟩
          refine hn m F' u' C' hat (fun b hb => ?_) fun b hb => ?_
          · have hlt := (hH.fr b hb).1
            exact (hcl b _ (by simp only [if_true, if_pos hb]; exact Array.getElem?_eq_getElem hlt)).1
          · have hlt := (hH.fr b hb).1
            have := (hcl b _ (by simp only [if_true, if_pos hb]; exact Array.getElem?_eq_getElem hlt)).2
            rw [this, Array.getElem?_eq_getElem hlt]
        · rw [List.getElem?_set_ne (Ne.symm ej)] at hpk
          simp only [if_neg ej, if_neg (show ¬ (j + 1 = i + 1) by omega)]
          exact h.held.par j q pk' hq hpk
    · have := h.go
      rw [hadv] at this
      exact this
end
end Go.Proofs.Ytoabkcalphpkhaa

/- (*Thread).Did: what was done is noted; the cell counts as changed, if it is. -/
namespace Go.Proofs.Ytoabkcalphpkhaa
open Go Go.RowKit
open Go.Proofs.YtoabkcalphpkhaaW.PrintWords
set_option linter.unusedVariables false
set_option linter.unusedSimpArgs false

theorem blk_set_ne' {u : World} {b : Nat} {a : Addr} {v : Value} (h : b ≠ a.block) : (u.setCell a v).heap[b]? = u.heap[b]? := Below.heap_setCell u a v b h

set_option maxHeartbeats 4000000 in
set_option maxRecDepth 100000 in
theorem did_calls (w : World) (T W cA n cc : Nat) (id op old new x : Int) (c : Nat) (v : Value) (tr : List St5) (ok : Nat → Prop) (hlen : (tr.length + 1) * 40 ≤ 140737488355328) (hc : c < n) (hn : n ≤ 9223372036854775807) (hx : 0 ≤ x ∧ x < 9223372036854775807)
    (hT0 : w.cell? ⟨T, 0, none⟩ = some (.pointer (some ⟨W, 0, none⟩))) (hT1 : w.cell? ⟨T, 1, none⟩ = some (.int .i64 id)) (hT4 : w.cell? ⟨T, 4, none⟩ = some (.int .i64 c)) (hT5 : w.cell? ⟨T, 5, none⟩ = some (.int .i64 op))
    (hW5 : w.cell? ⟨W, 5, none⟩ = some v) (hz : w.frozen? ⟨W, 5, none⟩ = false) (hW3 : w.cell? ⟨W, 3, none⟩ = some (.slice (some ⟨cA, 0, none⟩) n cc)) (hA : w.cell? ⟨cA, c, none⟩ = some (.int .i64 x)) (hzA : w.frozen? ⟨cA, c, none⟩ = false)
    (HO : k40.R 40 w 0 ok v tr) (hok : ∀ k, ok k → k ≠ W ∧ k ≠ T ∧ k ≠ cA) (hWT : W ≠ T) (hWA : W ≠ cA) (hfresh : ∀ k, w.heap.size ≤ k → ok k) :
    Calls Try.prog 63 #[.pointer (some ⟨T, 0, none⟩), .int .i64 old, .int .i64 new] w fun e w' => e = .returned (.tuple #[]) ∧
      ∃ v' w1, w.grownBy w1 v.ownBlock ∧ k40.R 40 w1 0 ok v' (tr ++ [⟨id, c, op, old, new⟩]) ∧ ∃ q, w' = (if old = new then w1.setCell ⟨W, 5, none⟩ v' else (w1.setCell ⟨W, 5, none⟩ v').setCell ⟨cA, c, none⟩ (.int .i64 (x + 1))).drewN q := by
  go_enter Try.func63, Try.ntmps63
  go_wp2_with fail
  go_still_tail 11, (by kernel_rfl)
  change wpList _ _ _ _ _ w.drew
  go_wp2_with fail
  refine (note_calls w.drew T W id op c old new v tr ok hlen hT0 hT1 hW5 hz (Kd.R_drew HO) (fun k hk => ⟨(hok k hk).1, (hok k hk).2.1⟩) hfresh).mono ?_
  rintro e w' ⟨rfl, v', w1, hg, hR, rfl⟩
  have own : ∀ k, v.ownBlock = some k → k ≠ W ∧ k ≠ T ∧ k ≠ cA := fun k hk => hok k (HO.1 k hk)
  have bW : w1.heap[W]? = w.heap[W]? := hg.block W (World.block_lt_of_cell? w _ hW5) (fun e => (own W e.symm).1 rfl)
  have bT : w1.heap[T]? = w.heap[T]? := hg.block T (World.block_lt_of_cell? w _ hT0) (fun e => (own T e.symm).2.1 rfl)
  have bA : w1.heap[cA]? = w.heap[cA]? := hg.block cA (World.block_lt_of_cell? w _ hA) (fun e => (own cA e.symm).2.2 rfl)
  have hg' : w.grownBy w1 v.ownBlock := ⟨hg.os, hg.tape, hg.output, hg.size, hg.block⟩
  have nTW : T ≠ W := fun e => hWT e.symm
  have nAW : cA ≠ W := fun e => hWA e.symm
  have sW : ∀ b i (u : Value), b ≠ W → (w1.setCell ⟨W, 5, none⟩ u).cell? ⟨b, i, none⟩ = w1.cell? ⟨b, i, none⟩ := fun b i u hb => World.cell?_of_block (w := w1) (blk_set_ne' hb)
  have q0 : (w1.setCell ⟨W, 5, none⟩ v').cell? ⟨T, 0, none⟩ = some (.pointer (some ⟨W, 0, none⟩)) := by rw [sW T 0 v' nTW]; unfold World.cell? at hT0 ⊢; rw [bT]; exact hT0
  have q4 : (w1.setCell ⟨W, 5, none⟩ v').cell? ⟨T, 4, none⟩ = some (.int .i64 c) := by rw [sW T 4 v' nTW]; unfold World.cell? at hT4 ⊢; rw [bT]; exact hT4
  have q3 : (w1.setCell ⟨W, 5, none⟩ v').cell? ⟨W, 3, none⟩ = some (.slice (some ⟨cA, 0, none⟩) n cc) := by
    rw [World.cell?_setCell_other (h := by simp)]; unfold World.cell? at hW3 ⊢; rw [bW]; exact hW3
  have qA : (w1.setCell ⟨W, 5, none⟩ v').cell? ⟨cA, c, none⟩ = some (.int .i64 x) := by rw [sW cA c v' nAW]; unfold World.cell? at hA ⊢; rw [bA]; exact hA
  have qz : (w1.setCell ⟨W, 5, none⟩ v').frozen? ⟨cA, c, none⟩ = false := by rw [World.frozen?_of_block (w := w1) (blk_set_ne' nAW)]; unfold World.frozen? at hzA ⊢; rw [bA]; exact hzA
  generalize hw2 : w1.setCell ⟨W, 5, none⟩ v' = w2 at q0 q4 q3 qA qz ⊢
  have c0 : decide ((0 : Int) ≤ (c : Int)) = true := decide_eq_true (by omega)
  have c1 : decide ((c : Int) < (n : Int)) = true := decide_eq_true (by omega)
  have HR : Hid (k40.R 40 w1 0 ok v' (tr ++ [⟨id, c, op, old, new⟩])) := hR
  clear HO hR hT0 hT1 hT4 hT5 hW5 hW3 hA hzA hz bW bT bA hg sW own hok hfresh
  by_cases he : old = new
  · subst he
    have d1 : decide (old ≠ old) = false := decide_eq_false (by simp)
    go_wp2_with fail
    go_quiet (fail)
    go_wp2_with fail
    go_end0
    exact ⟨rfl, v', w1, hg', HR.out, _, by rw [hw2]⟩
  · have d1 : decide (old ≠ new) = true := decide_eq_true he
    have d2 : (old == new) = false := beq_eq_false_iff_ne.mpr he
    have hw : wrap64 (x + 1) = x + 1 := by unfold wrap64; omega
    have c2 : (c : Int) < (n : Int) := by omega
    have c3 : (0 : Int) ≤ (c : Int) := by omega
    go_wp2_with fail
    go_quiet (fail)
    go_wp2_with fail
    have r0 : (w2.drewN nq).cell? ⟨T, 0, none⟩ = some (.pointer (some ⟨W, 0, none⟩)) := q0
    have r4 : (w2.drewN nq).cell? ⟨T, 4, none⟩ = some (.int .i64 c) := q4
    have r3 : (w2.drewN nq).cell? ⟨W, 3, none⟩ = some (.slice (some ⟨cA, 0, none⟩) n cc) := q3
    have rA : (w2.drewN nq).cell? ⟨cA, c, none⟩ = some (.int .i64 x) := qA
    have rz : (w2.drewN nq).frozen? ⟨cA, c, none⟩ = false := qz
    clear q0 q4 q3 qA qz
    generalize hw3 : w2.drewN nq = w3 at r0 r4 r3 rA rz ⊢
    go_still_tail 14, (by kernel_rfl)
    change wpList _ _ _ _ _ (World.drew _)
    go_wp2_with fail
    go_end0
    exact ⟨rfl, v', w1, hg', HR.out, nq + 1, by rw [hw2, ← hw3]; rfl⟩
end Go.Proofs.Ytoabkcalphpkhaa

/- What a thread notes, and what it did: the trace grows, a counter turns; the thread goes on. -/
namespace Go.Proofs.Ytoabkcalphpkhaa
open Go Go.Conc Go.RowKit
open Go.Proofs.YtoabkcalphpkhaaW.PrintWords
set_option linter.unusedVariables false
set_option linter.unusedSimpArgs false
set_option linter.unusedSectionVars false

set_option maxHeartbeats 1000000 in
set_option maxRecDepth 100000 in
theorem note95_calls (w : World) (T W : Nat) (id op old new : Int) (v : Value) (tr : List St5) (ok : Nat → Prop) (hlen : (tr.length + 1) * 40 ≤ 140737488355328)
    (hT0 : w.cell? ⟨T, 0, none⟩ = some (.pointer (some ⟨W, 0, none⟩))) (hT1 : w.cell? ⟨T, 1, none⟩ = some (.int .i64 id)) (hW5 : w.cell? ⟨W, 5, none⟩ = some v) (hz : w.frozen? ⟨W, 5, none⟩ = false)
    (HO : k40.R 40 w 0 ok v tr) (hok : ∀ k, ok k → k ≠ W ∧ k ≠ T) (hfresh : ∀ k, w.heap.size ≤ k → ok k) :
    Calls Try.prog 95 #[.pointer (some ⟨T, 0, none⟩), .int .i64 op, .int .i64 old, .int .i64 new] w fun e w' => e = .returned (.tuple #[]) ∧
      ∃ v' w1, w.grownBy w1 v.ownBlock ∧ k40.R 40 w1 0 ok v' (tr ++ [⟨id, -1, op, old, new⟩]) ∧ w' = w1.setCell ⟨W, 5, none⟩ v' := by
  go_enter Try.func95, Try.ntmps95
  go_wp2_with fail
  refine (note_calls w T W id op (-1) old new v tr ok hlen hT0 hT1 hW5 hz HO hok hfresh).mono ?_
  rintro e w' ⟨rfl, v', w1, hg, hR, rfl⟩
  clear HO
  have HG : Hid (w.grownBy w1 v.ownBlock) := hg
  have HR : Hid (k40.R 40 w1 0 ok v' (tr ++ [⟨id, -1, op, old, new⟩])) := hR
  clear hg hR
  go_wp2_with fail
  go_end0
  exact ⟨rfl, v', w1, HG.out, HR.out, rfl⟩

section
variable {L : Lay} {Q : PQ} {n i T g : Nat} {p : Stat} {F : Nat → Prop} {u u' w1 : World} {ts : List (Nat × Nat)} {tc : Nat → TC} {s : Sys} {vth vtr v' : Value} {oc : Array Value} {pks : List Park} {recs : Nat → Goroutine} {r0 : Goroutine} {K : Sys → List Park → Prop} {Cl : Nat → Nat → Option Obj} {C : Ctx Try.prog}

theorem Held.on (h : Held L Q ts tc s vth vtr oc pks recs Cl F u) (hu : u'.heap = u.heap) (hos : u'.os = u.os) (hout : u'.output = u.output) : Held L Q ts tc s vth vtr oc pks recs Cl F u' :=
  ⟨h.lens, h.rep.move (fun b _ => by rw [hu]) hos hout, h.heaps.step (fun b hb => .inl hb) (fun b _ _ _ => by rw [hu]) (by rw [hu]; exact Nat.le_refl _), h.ro, h.idle, h.N0, h.ton, h.par⟩
theorem Going.on (h : Going L Q i T g p F u ts tc s vth vtr oc pks recs r0 K Cl) (hu : u'.heap = u.heap) (hos : u'.os = u.os) (hout : u'.output = u.output) : Going L Q i T g p F u' ts tc s vth vtr oc pks recs r0 K Cl :=
  ⟨h.held.on hu hos hout, h.me, h.mine, h.free, h.nums, h.main, h.ok, h.go⟩
theorem AtF.on (h : AtF L Q i T p F u C) (τ : Nat → Question → Nat) (d : Nat) : AtF L Q i T p F (u.on τ d) C := by
  obtain ⟨g, ts, tc, s, vth, vtr, oc, pks, recs, r0, K, Cl, h, hC⟩ := h
  exact ⟨g, ts, tc, s, vth, vtr, oc, pks, recs, r0, K, Cl, h.on rfl rfl rfl, hC⟩

def trOk (vtr : Value) (u : World) : Nat → Prop := fun k => vtr.ownBlock = some k ∨ u.heap.size ≤ k
theorem Held.trR (h : Held L Q ts tc s vth vtr oc pks recs Cl F u) (τ : Nat → Question → Nat) (d : Nat) : k40.R 40 (u.on τ d) 0 (trOk vtr u) vtr s.trace := R_flat flat_k40 h.rep.tr (fun _ _ => rfl) fun k hk => .inl hk
theorem Held.trOk_ne (h : Held L Q ts tc s vth vtr oc pks recs Cl F u) {b t : Nat} {c : Array Value} {z : Nat × Nat} (hb : u.heap[b]? = some (.cells c t z)) (ht : t ≠ 40) {k : Nat} (hk : trOk vtr u k) : k ≠ b := by
  rcases hk with hk | hk
  · exact own_ne h.rep.tr hb (Ne.symm ht) hk
  · have := blk_lt hb
    omega

/-- Behind a step that was noted. -/
theorem Held.traced (h : Held L Q ts tc s vth vtr oc pks recs Cl F u) {x : St5} (hR : k40.R 40 w1 0 (trOk vtr u) v' (s.trace ++ [x])) (hb : ∀ k, k < u.heap.size → some k ≠ vtr.ownBlock → w1.heap[k]? = u.heap[k]?) (hsz : u.heap.size ≤ w1.heap.size)
    (hos : w1.os = u.os) (hout : w1.output = u.output) : Held L Q ts tc (s.noted x) vth v' oc pks recs Cl F (w1.setCell ⟨L.W, 5, none⟩ v') := by
  have hr := h.rep
  have hW : w1.heap[L.W]? = u.heap[L.W]? := hb _ (blk_lt hr.w) fun e => own_ne hr.tr hr.w (by decide) e.symm rfl
  have hWne : ∀ k, v'.ownBlock = some k → k ≠ L.W := fun k hk => h.trOk_ne hr.w (by decide) (hR.1 k hk)
  have hrep : Rep L ts tc (s.noted x) vth v' oc (w1.setCell ⟨L.W, 5, none⟩ v') := by
    refine hr.world ?_ (R_flat flat_k40 hR (fun k hk => blk_set_ne (a := ⟨L.W, 5, none⟩) (hWne k hk) _) fun _ _ => trivial) (fun b hb1 hb2 hb3 => ?_) rfl rfl (by simp [Sys.noted]) hos hout
    · rw [blk_set (hW.trans hr.w)]
      rfl
    · rw [blk_set_ne (a := ⟨L.W, 5, none⟩) hb2]
      exact hb b hb1 (fun e => hb3 e.symm)
  refine ⟨h.lens, hrep, h.heaps.step (fun b hs => ?_) (fun b h1 h2 h3 => ?_) (by rw [size_set]; exact hsz), h.ro, h.idle, h.N0, h.ton, h.par⟩
  · rcases hs with e | e | e | e | e | e | e | e
    · exact .inl (.inl e)
    · exact .inl (.inr (.inl e))
    · exact .inl (.inr (.inr (.inl e)))
    · exact .inl (.inr (.inr (.inr (.inl e))))
    · exact .inl (.inr (.inr (.inr (.inr (.inl e)))))
    · exact .inl (.inr (.inr (.inr (.inr (.inr (.inl e))))))
    · exact .inl (.inr (.inr (.inr (.inr (.inr (.inr (.inl e)))))))
    · rcases hR.1 b e with e' | e'
      · exact .inl (.inr (.inr (.inr (.inr (.inr (.inr (.inr e')))))))
      · exact .inr e'
  · rw [blk_set_ne (a := ⟨L.W, 5, none⟩) (fun e => h1 (.inl e))]
    exact hb b h3 fun e => h1 (.inr (.inr (.inr (.inr (.inr (.inr (.inr e.symm)))))))

/-- Room for one more step. -/
theorem Going.room (h : Going L Q i T g p F u ts tc s vth vtr oc pks recs r0 K Cl) : (advS i p s).1.trace.length ≤ roomB := (h.ok _ _ h.go).1
theorem room_of {n : Nat} (h : n + 1 ≤ roomB) : (n + 1) * 40 ≤ 140737488355328 := by unfold roomB at h; omega

theorem Keep.of {F : Nat → Prop} (hb : ∀ b, F b → u'.heap[b]? = u.heap[b]?) : Keep F u u' := hb

/-- What a thread's own step keeps. -/
theorem Held.keep_traced (h : Held L Q ts tc s vth vtr oc pks recs Cl F u) (hb : ∀ k, k < u.heap.size → some k ≠ vtr.ownBlock → w1.heap[k]? = u.heap[k]?) : Keep F u (w1.setCell ⟨L.W, 5, none⟩ v') := by
  intro b hF
  have := h.heaps.fr b hF
  rw [blk_set_ne (a := ⟨L.W, 5, none⟩) (fun e => this.2.1 (.inl e))]
  exact hb b this.1 fun e => this.2.1 (.inr (.inr (.inr (.inr (.inr (.inr (.inr e.symm)))))))

/-- Something that is no step. -/
theorem AtF.note95 {op a b : Int} {k : Proc} (h : AtF L Q i T (.go (.note op a b k)) F u C) {fr : Frame} {cs : List Frame} (hn : ∀ u', AtF L Q i T (.go k) F u' C → Keep F u u' → Wn C (fr.finish (.tuple #[])) cs u') :
    Wn C (Frame.enter Try.prog 95 #[ptr T, num op, num a, num b] .normal) (fr :: cs) u := by
  obtain ⟨g, ts, tc, s, vth, vtr, oc, pks, recs, r0, K, Cl, h, rfl⟩ := h
  have hr := h.held.rep
  have hT := hr.t i _ h.me
  have hroom : s.trace.length + 1 ≤ roomB := by
    have h1 := adv_longer i k (s.noted ⟨i, -1, op, a, b⟩)
    have h2 := h.room
    simp only [Sys.noted, List.length_append, List.length_singleton] at h1
    exact Nat.le_trans h1 h2
  refine Wn.enter (K := fun v w' => v = .tuple #[] ∧ AtF L Q i T (.go k) F w' (ctxOf L ts pks recs (some r0) (L.N0 + i) h.held.hW) ∧ Keep F u w') (by rfl) (fun v w τ d ⟨h1, h2, h3⟩ => ⟨h1, h2.on τ d, h3⟩) (fun τ d => ⟨_, ?_, note95_calls (u.on τ d) T L.W i op a b vtr s.trace (trOk vtr u) (room_of hroom) ((blk_cell hT 0).trans rfl) ((blk_cell hT 1).trans rfl) ((blk_cell hr.w 5).trans rfl)
    ((blk_frozen hr.w 5).trans rfl) (h.held.trR τ d) (fun k hk => ⟨h.held.trOk_ne hr.w (by decide) hk, h.held.trOk_ne hT (by decide) hk⟩) (fun k hk => .inr hk)⟩) (fun v u' ⟨h1, h2, h3⟩ => by subst h1; exact hn u' h2 h3)
  rintro e w' ⟨rfl, v', w1, hg, hR, rfl⟩
  have hheld := h.held.traced hR hg.block hg.size hg.os hg.output
  exact ⟨rfl, ⟨g, ts, tc, _, vth, v', oc, pks, recs, r0, K, Cl, ⟨hheld, h.me, h.mine, h.free, trivial, h.main, h.ok, h.go⟩, rfl⟩, h.held.keep_traced hg.block⟩
end
end Go.Proofs.Ytoabkcalphpkhaa

/- (*Thread).Turn, Did, Await, as a thread of a world does them. -/
namespace Go.Proofs.Ytoabkcalphpkhaa
open Go Go.Conc Go.RowKit
open Go.Proofs.YtoabkcalphpkhaaW.PrintWords
set_option linter.unusedVariables false
set_option linter.unusedSimpArgs false
set_option linter.unusedSectionVars false

section
variable {L : Lay} {Q : PQ} {n i T g : Nat} {p : Stat} {F : Nat → Prop} {u u' w1 : World} {ts : List (Nat × Nat)} {tc : Nat → TC} {s : Sys} {vth vtr v' : Value} {oc : Array Value} {pks : List Park} {recs : Nat → Goroutine} {r0 : Goroutine} {K : Sys → List Park → Prop} {Cl : Nat → Nat → Option Obj} {C : Ctx Try.prog}

theorem addr_add (b c : Nat) : (⟨b, 0, none⟩ : Addr).add c = ⟨b, c, none⟩ := by
  unfold Addr.add
  split
  · rename_i h; simp_all
  · simp
theorem Keep.trans' {F F' : Nat → Prop} {a b c : World} (h : Keep F a b) (hF : ∀ x, F x → F' x) (h' : Keep F' b c) : Keep F a c := fun x hx => (h' x (hF x hx)).trans (h x hx)

theorem Held.counter (h : Held L Q ts tc s vth vtr oc pks recs Cl F u) {c : Nat} {x : Int} (hx : 0 ≤ x ∧ x ≤ s.trace.length) : Held L Q ts tc { s with chg := s.chg.set c x } vth vtr oc pks recs Cl F (u.setCell ⟨L.cA, c, none⟩ (num x)) := by
  refine ⟨h.lens, h.rep.counter hx, h.heaps.step (fun b hs => .inl hs) (fun b h1 h2 h3 => ?_) (by rw [size_set]; exact Nat.le_refl _), h.ro, h.idle, h.N0, h.ton, h.par⟩
  exact blk_set_ne (a := ⟨L.cA, c, none⟩) (fun e => h1 (.inr (.inr (.inl e)))) _
theorem Held.keep_counter (h : Held L Q ts tc s vth vtr oc pks recs Cl F u) {c : Nat} {x : Value} : Keep F u (u.setCell ⟨L.cA, c, none⟩ x) :=
  fun b hF => blk_set_ne (a := ⟨L.cA, c, none⟩) (fun e => (h.heaps.fr b hF).2.1 (.inr (.inr (.inl e)))) _

set_option maxHeartbeats 1000000 in
theorem AtF.did63 {c : Nat} {op old new : Int} {k : Proc} (h : AtF L Q i T (.did c op old new k) F u C) (hc : c < L.cn) {fr : Frame} {cs : List Frame} (hn : ∀ u', AtF L Q i T (.go k) F u' C → Keep F u u' → Wn C (fr.finish (.tuple #[])) cs u') :
    Wn C (Frame.enter Try.prog 63 #[ptr T, num old, num new] .normal) (fr :: cs) u := by
  obtain ⟨g, ts, tc, s, vth, vtr, oc, pks, recs, r0, K, Cl, h, rfl⟩ := h
  have hr := h.held.rep
  have hT := hr.t i _ h.me
  obtain ⟨hnums, hmax⟩ := nums_of_row hr.ch
  have hroom : s.trace.length + 1 ≤ roomB := by
    have h1 := adv_longer i k (s.did i c op old new)
    have h2 := h.room
    simp only [Sys.did, List.length_append, List.length_singleton] at h1
    exact Nat.le_trans h1 h2
  have hlen : s.chg.length = L.cn := hr.nlen
  have hx := hr.chb (s.chg.getD c 0) (by rw [List.getD_eq_getElem?_getD, List.getElem?_eq_getElem (by omega)]; exact List.getElem_mem _)
  obtain ⟨ca, hca⟩ := own_ty hr.ch (k := L.cA) rfl
  have hA : u.cell? ⟨L.cA, c, none⟩ = some (num (s.chg.getD c 0)) := by
    obtain ⟨ad, e, hcell⟩ := hnums.2 c hc
    cases e
    rw [addr_add] at hcell
    exact hcell
  have hnm := h.nums
  simp only [procNums] at hnm
  have hT4 : u.cell? ⟨T, 4, none⟩ = some (num c) := by rw [← hnm.1]; exact (blk_cell hT 4).trans rfl
  have hT5 : u.cell? ⟨T, 5, none⟩ = some (num op) := by rw [← hnm.2]; exact (blk_cell hT 5).trans rfl
  refine Wn.enter (K := fun v w => v = .tuple #[] ∧ AtF L Q i T (.go k) F w (ctxOf L ts pks recs (some r0) (L.N0 + i) h.held.hW) ∧ Keep F u w) (by rfl) (fun v w τ d ⟨h1, h2, h3⟩ => ⟨h1, h2.on τ d, h3⟩) (fun τ d => ⟨_, ?_, did_calls (u.on τ d) T L.W L.cA L.cn L.cc i op old new (s.chg.getD c 0) c vtr s.trace (trOk vtr u) (room_of hroom) hc hmax
    ⟨hx.1, by have := hx.2; unfold roomB at hroom; omega⟩ ((blk_cell hT 0).trans rfl) ((blk_cell hT 1).trans rfl) hT4 hT5 ((blk_cell hr.w 5).trans rfl)
    ((blk_frozen hr.w 5).trans rfl) ((blk_cell hr.w 3).trans rfl) hA (blk_thawed hca c) (h.held.trR τ d) (fun k hk => ⟨h.held.trOk_ne hr.w (by decide) hk, h.held.trOk_ne hT (by decide) hk, h.held.trOk_ne hca (by decide) hk⟩) (hr.nW_T h.me) (ne_of_ty hr.w hca (by decide)) (fun k hk => .inr hk)⟩) (fun v u' ⟨h1, h2, h3⟩ => by subst h1; exact hn u' h2 h3)
  rintro e w' ⟨rfl, v', w1, hg, hR, q, rfl⟩
  have hheld := h.held.traced hR hg.block hg.size hg.os hg.output
  have hkeep := h.held.keep_traced (v' := v') hg.block
  by_cases he : old = new
  · rw [if_pos he]
    have e : (s.did i c op old new) = s.noted ⟨i, c, op, old, new⟩ := by simp [Sys.did, Sys.noted, he]
    have hgo := h.go
    simp only [advS, e] at hgo
    exact ⟨rfl, AtF.on ⟨g, ts, tc, _, vth, v', oc, pks, recs, r0, K, Cl, ⟨hheld, h.me, h.mine, h.free, (show procNums (.go k) _ from trivial), h.main, h.ok, hgo⟩, rfl⟩ _ _, hkeep⟩
  · rw [if_neg he]
    have hc2 := hheld.counter (c := c) (x := s.chg.getD c 0 + 1) ⟨by omega, by simp only [Sys.noted, List.length_append, List.length_singleton]; omega⟩
    have e : (s.did i c op old new) = { s.noted ⟨i, c, op, old, new⟩ with chg := s.chg.set c (s.chg.getD c 0 + 1) } := by simp [Sys.did, Sys.noted, he]
    have hgo := h.go
    simp only [advS, e] at hgo
    exact ⟨rfl, AtF.on ⟨g, ts, tc, _, vth, v', oc, pks, recs, r0, K, Cl, ⟨hc2, h.me, h.mine, h.free, (show procNums (.go k) _ from trivial), h.main, h.ok, hgo⟩, rfl⟩ _ _, hkeep.trans hheld.keep_counter⟩

set_option maxRecDepth 100000 in
set_option maxHeartbeats 1000000 in
theorem AtF.turn62 {c : Nat} {op : Int} {f : Int → Int} {k : Int → Proc} (h : AtF L (Qn L n) i T (.go (.step c op f k)) F u C) {fr : Frame} {cs : List Frame}
    (hn : ∀ m F' u' C', AtF L (Qn L m) i T (.mid c op f k) F' u' C' → (∀ b, F b → F' b) → Keep F u u' → Wn C' (fr.finish (.tuple #[])) cs u') :
    Wn C (Frame.enter Try.prog 62 #[ptr T, num c, num op] .normal) (fr :: cs) u := by
  obtain ⟨g, ts, tc, s, vth, vtr, oc, pks, recs, r0, K, Cl, h, hC⟩ := h
  have hr := h.held.rep
  have hT := hr.t i _ h.me
  have hT0 : u.cell? ⟨T, 0, none⟩ = some (.pointer (some ⟨L.W, 0, none⟩)) := (blk_cell hT 0).trans rfl
  have hfz : C.fz = true := by rw [hC]; rfl
  clear hT
  refine Wn.body Try.func62 rfl ?_
  simp only [Try.ntmps62, List.size_toArray, List.length_cons, List.length_nil, Nat.reduceAdd, Nat.reduceSub, Array.replicate_succ, Array.replicate_zero, List.push_toArray, List.append_toArray, List.nil_append, List.cons_append]
  refine Wn.seq ?_
  refine Wn.reg (by simp [base]) (by rw [hfz]; kernel_rfl) ?_
  go_wp2_with fail
  refine ⟨rfl, ?_⟩
  refine Wn.cond rfl ?_
  simp only [if_true]
  refine Wn.open ?_
  refine Wn.span1 0 3 4 (by simp [base]) (by decide) (by decide) (by rw [hfz]; kernel_rfl) ?_
  simp only [List.take, List.drop]
  go_wp2_with fail
  refine ⟨rfl, ?_⟩
  refine Wn.callC 3 1 0 rfl (by simp [base]) rfl rfl rfl (by kernel_rfl) ?_
  refine Going.wait h hC (pk := .want c op f k) (st := 1) (op := op) (c := c) rfl ⟨rfl, rfl, rfl⟩ rfl ?_
  intro m F' u' C' hat hF hk
  rw [Frame.finish_at]
  refine Wn.range_end (Wn.fall ?_)
  exact Wn.back rfl rfl Try.func62 (results_none rfl _ _ _) (hn m F' u' C' hat hF hk)
end
end Go.Proofs.Ytoabkcalphpkhaa

/- (*Thread).Await, as a thread of a world does it. -/
namespace Go.Proofs.Ytoabkcalphpkhaa
open Go Go.Conc Go.RowKit
open Go.Proofs.YtoabkcalphpkhaaW.PrintWords
set_option linter.unusedVariables false
set_option linter.unusedSimpArgs false
set_option linter.unusedSectionVars false

section
variable {L : Lay} {Q : PQ} {n i T g : Nat} {p : Stat} {F : Nat → Prop} {u u' w1 : World} {ts : List (Nat × Nat)} {tc : Nat → TC} {s : Sys} {vth vtr v' : Value} {oc : Array Value} {pks : List Park} {recs : Nat → Goroutine} {r0 : Goroutine} {K : Sys → List Park → Prop} {Cl : Nat → Nat → Option Obj} {C : Ctx Try.prog}

/-- A step behind the trace, by note itself. -/
theorem Going.note84 {p' : Stat} {op c a b : Int} (h : Going L Q i T g p F u ts tc s vth vtr oc pks recs r0 K Cl) (hC : C = ctxOf L ts pks recs (some r0) (L.N0 + i) h.held.hW) (hp : advS i p s = advS i p' (s.noted ⟨i, c, op, a, b⟩)) (hnm : procNums p' (tc i)) {fr : Frame} {cs : List Frame}
    (hn : ∀ u', AtF L Q i T p' F u' C → Keep F u u' → Wn C (fr.finish (.tuple #[])) cs u') : Wn C (Frame.enter Try.prog 84 #[ptr T, num op, num c, num a, num b] .normal) (fr :: cs) u := by
  subst hC
  have hr := h.held.rep
  have hT := hr.t i _ h.me
  have hroom : s.trace.length + 1 ≤ roomB := by
    have h1 := advS_longer i p' (s.noted ⟨i, c, op, a, b⟩)
    have h2 := h.room
    rw [hp] at h2
    simp only [Sys.noted, List.length_append, List.length_singleton] at h1
    exact Nat.le_trans h1 h2
  refine Wn.enter (K := fun v w => v = .tuple #[] ∧ AtF L Q i T p' F w (ctxOf L ts pks recs (some r0) (L.N0 + i) h.held.hW) ∧ Keep F u w) (by rfl) (fun v w τ d ⟨h1, h2, h3⟩ => ⟨h1, h2.on τ d, h3⟩) (fun τ d => ⟨_, ?_, note_calls (u.on τ d) T L.W i op c a b vtr s.trace (trOk vtr u) (room_of hroom) ((blk_cell hT 0).trans rfl) ((blk_cell hT 1).trans rfl) ((blk_cell hr.w 5).trans rfl)
    ((blk_frozen hr.w 5).trans rfl) (h.held.trR τ d) (fun k hk => ⟨h.held.trOk_ne hr.w (by decide) hk, h.held.trOk_ne hT (by decide) hk⟩) (fun k hk => .inr hk)⟩) (fun v u' ⟨h1, h2, h3⟩ => by subst h1; exact hn u' h2 h3)
  rintro e w' ⟨rfl, v', w1, hg, hR, rfl⟩
  have hheld := h.held.traced hR hg.block hg.size hg.os hg.output
  have hgo := h.go
  rw [hp] at hgo
  exact ⟨rfl, ⟨g, ts, tc, _, vth, v', oc, pks, recs, r0, K, Cl, ⟨hheld, h.me, h.mine, h.free, hnm, h.main, h.ok, hgo⟩, rfl⟩, h.held.keep_traced hg.block⟩

set_option maxRecDepth 100000 in
set_option maxHeartbeats 1000000 in
theorem AtF.await54 {c : Nat} {k : Bool → Proc} (h : AtF L (Qn L n) i T (.go (.await c k)) F u C) {fr : Frame} {cs : List Frame}
    (hn : ∀ m b F' u' C', AtF L (Qn L m) i T (.go (k b)) F' u' C' → (∀ b, F b → F' b) → Keep F u u' → Wn C' (fr.finish (.bool b)) cs u') :
    Wn C (Frame.enter Try.prog 54 #[ptr T, num c] .normal) (fr :: cs) u := by
  obtain ⟨g, ts, tc, s, vth, vtr, oc, pks, recs, r0, K, Cl, h, hC⟩ := h
  have hr := h.held.rep
  have hT := hr.t i _ h.me
  have hT0 : u.cell? ⟨T, 0, none⟩ = some (.pointer (some ⟨L.W, 0, none⟩)) := (blk_cell hT 0).trans rfl
  have hW6 : u.cell? ⟨L.W, 6, none⟩ = some (.bool s.stuck) := (blk_cell hr.w 6).trans rfl
  have hfz : C.fz = true := by rw [hC]; rfl
  clear hT
  refine Wn.body Try.func54 rfl ?_
  simp only [Try.ntmps54, List.size_toArray, List.length_cons, List.length_nil, Nat.reduceAdd, Nat.reduceSub, Array.replicate_succ, Array.replicate_zero, List.push_toArray, List.append_toArray, List.nil_append, List.cons_append]
  refine Wn.seq (Wn.reg (by simp [base]) (by rw [hfz]; kernel_rfl) ?_)
  go_wp2_with fail
  refine ⟨rfl, ?_⟩
  refine Wn.seq (Wn.seq (Wn.reg (by simp [base]) (by rw [hfz]; kernel_rfl) ?_))
  go_wp2_with fail
  refine ⟨rfl, ?_⟩
  refine Wn.cond rfl ?_
  simp only [Bool.false_eq_true, if_false]
  refine Wn.skip (Wn.seq (Wn.seq (Wn.reg (by simp [base]) (by rw [hfz]; kernel_rfl) ?_)))
  go_wp2_with fail
  refine ⟨rfl, ?_⟩
  refine Wn.cond rfl ?_
  cases hst : s.stuck with
  | true =>
    simp only [if_true]
    refine Wn.seq (Wn.reg (by simp [base]) (by rw [hfz]; kernel_rfl) ?_)
    go_wp2_with fail
    refine ⟨rfl, ?_⟩
    refine Wn.ret (Wn.back rfl rfl Try.func54 (results_tmp rfl _ _ _) ?_)
    have hgo := h.go
    simp only [advS, adv, hst, if_true] at hgo
    exact hn n false F u C ⟨g, ts, tc, s, vth, vtr, oc, pks, recs, r0, K, Cl, ⟨h.held, h.me, h.mine, h.free, (show procNums (.go (k false)) _ from trivial), h.main, h.ok, hgo⟩, hC⟩ (fun _ h => h) (Keep.refl _ _)
  | false =>
    simp only [Bool.false_eq_true, if_false]
    refine Wn.skip (Wn.seq (Wn.open ?_))
    refine Wn.span1 0 2 3 (by simp [base]) (by decide) (by decide) (by rw [hfz]; kernel_rfl) ?_
    simp only [List.take, List.drop]
    go_wp2_with fail
    refine ⟨rfl, ?_⟩
    refine Wn.callC 2 1 0 rfl (by simp [base]) rfl rfl rfl (by kernel_rfl) ?_
    refine Going.wait h hC (pk := .wait c (s.chg.getD c 0) k) (st := 2) (op := 6) (c := c) rfl ⟨rfl, rfl, (changedOf_nat _ _)⟩ (by simp [advS, adv, hst]) ?_
    intro m F' u' C' hat hF hk
    rw [Frame.finish_at]
    refine Wn.range_end ?_
    clear hT0 hW6 hr
    obtain ⟨g', ts', tc', s', vth', vtr', oc', pks', recs', r0', K', Cl', h', hC'⟩ := hat
    have hr := h'.held.rep
    have hT := hr.t i _ h'.me
    have hT0 : u'.cell? ⟨T, 0, none⟩ = some (.pointer (some ⟨L.W, 0, none⟩)) := (blk_cell hT 0).trans rfl
    have hW6 : u'.cell? ⟨L.W, 6, none⟩ = some (.bool s'.stuck) := (blk_cell hr.w 6).trans rfl
    have hfz' : C'.fz = true := by rw [hC']; rfl
    clear hT
    refine Wn.seq (Wn.seq (Wn.reg (by simp [base]) (by rw [hfz']; kernel_rfl) ?_))
    go_wp2_with fail
    refine ⟨rfl, ?_⟩
    refine Wn.cond rfl ?_
    cases hst' : s'.stuck with
    | true =>
      simp only [if_true]
      refine Wn.seq (Wn.reg (by simp [base]) (by rw [hfz']; kernel_rfl) ?_)
      go_wp2_with fail
      refine ⟨rfl, ?_⟩
      refine Wn.ret (Wn.back rfl rfl Try.func54 (results_tmp rfl _ _ _) ?_)
      have hgo := h'.go
      simp only [Park.resume, advS, hst', if_true] at hgo
      exact hn m false F' u' C' ⟨g', ts', tc', s', vth', vtr', oc', pks', recs', r0', K', Cl', ⟨h'.held, h'.me, h'.mine, h'.free, (show procNums (.go (k false)) _ from trivial), h'.main, h'.ok, hgo⟩, hC'⟩ hF hk
    | false =>
      simp only [Bool.false_eq_true, if_false]
      refine Wn.skip (Wn.seq (Wn.open ?_))
      refine Wn.span1 0 2 3 (by simp [base]) (by decide) (by decide) (by rw [hfz']; kernel_rfl) ?_
      simp only [List.take, List.drop]
      go_wp2_with fail
      refine ⟨rfl, ?_⟩
      refine Wn.callC 2 1 0 rfl (by simp [base]) rfl rfl rfl (by kernel_rfl) ?_
      refine Going.note84 h' hC' (p' := .go (k true)) (by simp [Park.resume, advS, hst']) trivial ?_
      intro u2 hat2 hk2
      rw [Frame.finish_at]
      refine Wn.range_end ?_
      refine Wn.seq (Wn.reg (by simp [base]) (by rw [hfz']; kernel_rfl) ?_)
      go_wp2_with fail
      refine ⟨rfl, ?_⟩
      refine Wn.ret (Wn.back rfl rfl Try.func54 (results_tmp rfl _ _ _) ?_)
      exact hn m true F' u2 C' hat2 hF (hk.trans' hF hk2)
end
end Go.Proofs.Ytoabkcalphpkhaa

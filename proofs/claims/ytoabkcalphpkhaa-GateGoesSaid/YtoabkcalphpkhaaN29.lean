/- Merged: Nil, Free, Free2. -/
import Derived.Test.YtoabkcalphpkhaaN21
import Derived.Test.YtoabkcalphpkhaaN20
/- play.May of no world. -/
namespace Go.Proofs.Ytoabkcalphpkhaa
open Go Go.Conc Go.RowKit
open Go.Proofs.YtoabkcalphpkhaaW.PrintWords
set_option linter.unusedVariables false
set_option linter.unusedSimpArgs false
set_option linter.unusedSectionVars false
set_option maxRecDepth 100000

def nilOf (scripts : List (List Cal)) : Int := if scripts.any (fun l => decide (64 < l.length)) then 2 else 1
set_option maxHeartbeats 1000000 in
theorem may_nil_calls {w : World} {scripts : List (List Cal)} {SA : Option Addr} {scp : Nat} (hmx : scripts.length ≤ 9223372036854775806) (hs : Lists w SA scripts) :
    Calls Try.prog 49 #[.pointer none, .slice SA scripts.length scp, .bool false] w fun e w' => e = .returned (num (nilOf scripts)) ∧ ∃ τ d, w' = w.on τ d := by
  have HS : Hid (Lists w SA scripts) := hs
  clear hs
  go_enter Try.func49, Try.ntmps49
  go_wp2_with fail
  go_loopg [11] (scripts.length + 1) (fun kq v11 w' => ∃ (i : Nat), v11 = num i ∧ Aside0 (i ≤ scripts.length ∧ kq = scripts.length + 1 - i ∧ ∀ l ∈ scripts.take i, l.length ≤ 64) ∧ w' = w)
  case atStart => exact ⟨0, rfl, ⟨by omega, by omega, by simp⟩, rfl⟩
  case round =>
    obtain ⟨i, rfl, hi, rfl⟩ := hrel
    by_cases hend : i < scripts.length
    · have hli : scripts[i]? = some scripts[i] := List.getElem?_eq_getElem hend
      obtain ⟨ad, A, cp, rfl, q0⟩ := HS.out i _ hli
      have htk : Hid (scripts.take (i + 1) = scripts.take i ++ [scripts[i]]) := by
        show _ = _
        rw [List.take_add_one, hli]; rfl
      have hmem : Hid (scripts[i] ∈ scripts) := List.getElem_mem hend
      generalize scripts[i] = l at q0 htk hmem
      have d1 : decide ((i : Int) < (scripts.length : Int)) = true := decide_eq_true (by omega)
      have d2 : decide ((0 : Int) ≤ (i : Int)) = true := decide_eq_true (by omega)
      have d3 : (i : Int) < (scripts.length : Int) := by omega
      have d4 : (0 : Int) ≤ (i : Int) := by omega
      by_cases h64 : 64 < l.length
      · have e1 : decide ((l.length : Int) > 64) = true := decide_eq_true (by omega)
        have e2 : decide ((64 : Int) < (l.length : Int)) = true := decide_eq_true (by omega)
        have e3 : decide (64 < l.length) = true := decide_eq_true h64
        go_wp2_with fail
        go_ret
        refine ⟨?_, wr.tape, wr.drawn, rfl⟩
        unfold nilOf
        rw [if_pos (List.any_eq_true.2 ⟨l, hmem.out, decide_eq_true h64⟩)]
        rfl
      · have e1 : decide ((l.length : Int) > 64) = false := decide_eq_false (by omega)
        have e2 : decide ((64 : Int) < (l.length : Int)) = false := decide_eq_false (by omega)
        have e3 : decide (64 < l.length) = false := decide_eq_false h64
        go_wp2_with fail
        go_roundg (gk - 1)
        case measure => have := hi.out; omega
        case rel => exact ⟨i + 1, rfl, ⟨by omega, by have := hi.out; omega, fun l' hl' => by
          rw [htk.out] at hl'
          rcases List.mem_append.1 hl' with h | h
          · exact hi.out.2.2 l' h
          · rw [List.mem_singleton] at h; rw [h]; omega⟩, rfl⟩
    · have hil : i = scripts.length := by have := hi.out; omega
      subst hil
      have d1 : decide ((scripts.length : Int) < (scripts.length : Int)) = false := decide_eq_false (by omega)
      have hno : nilOf scripts = 1 := by
        unfold nilOf
        rw [if_neg (fun e => by
          obtain ⟨l, hl, e⟩ := List.any_eq_true.1 e
          have := hi.out.2.2 l (by rw [List.take_length]; exact hl)
          have := of_decide_eq_true e
          omega)]
      by_cases h1 : scripts.length < 1
      · have e1 : decide ((scripts.length : Int) < 1) = true := decide_eq_true (by omega)
        go_wp2_with fail
        go_ret
        exact ⟨by rw [hno]; rfl, wr.tape, wr.drawn, rfl⟩
      · have e1 : decide ((scripts.length : Int) < 1) = false := decide_eq_false (by omega)
        by_cases h8 : 8 < scripts.length
        · have e2 : decide ((scripts.length : Int) > 8) = true := decide_eq_true (by omega)
          have e3 : decide ((8 : Int) < (scripts.length : Int)) = true := decide_eq_true (by omega)
          have e4 : decide (8 < scripts.length) = true := decide_eq_true h8
          go_wp2_with fail
          go_ret
          exact ⟨by rw [hno]; rfl, wr.tape, wr.drawn, rfl⟩
        · have e2 : decide ((scripts.length : Int) > 8) = false := decide_eq_false (by omega)
          have e3 : decide ((8 : Int) < (scripts.length : Int)) = false := decide_eq_false (by omega)
          have e4 : decide (8 < scripts.length) = false := decide_eq_false h8
          go_wp2_with fail
          go_ret
          exact ⟨by rw [hno]; rfl, wr.tape, wr.drawn, rfl⟩
section
variable {C : Ctx Try.prog} {u : World} {fr : Frame} {cs : List Frame}
theorem may49_nil (hS : C.S = S0) {scripts : List (List Cal)} {SA : Option Addr} {scp : Nat} (hmx : scripts.length ≤ 9223372036854775806) (hs : Lists u SA scripts) (hn : Wn C (fr.finish (num (nilOf scripts))) cs u) :
    Wn C (Frame.enter Try.prog 49 #[.pointer none, .slice SA scripts.length scp, .bool false] .normal) (fr :: cs) u := by
  refine Wn.enter (by rw [hS]; rfl) (K := fun v w' => v = num (nilOf scripts) ∧ ∃ τ d, w' = u.on τ d) ?_ (fun τ d => ⟨_, ?_, may_nil_calls hmx (fun i l hl => hs i l hl)⟩) ?_
  · rintro v w' τ d ⟨rfl, τ', d', rfl⟩
    exact ⟨rfl, τ, d, rfl⟩
  · rintro e w' ⟨rfl, τ', d', rfl⟩
    exact ⟨rfl, τ', d', rfl⟩
  · rintro v u' ⟨rfl, τ', d', rfl⟩
    exact hn.on _ _
end
end Go.Proofs.Ytoabkcalphpkhaa

/- One free thread, of no world: what the layers ask of it. (Printed by gen_free.py.) -/
namespace Go.Proofs.Ytoabkcalphpkhaa
open Go Go.Conc Go.RowKit
open Go.Proofs.YtoabkcalphpkhaaW.PrintWords
set_option linter.unusedVariables false
set_option linter.unusedSimpArgs false
set_option linter.unusedSectionVars false
set_option maxRecDepth 100000

def updV (vals : Nat → Int) (c : Nat) (v : Int) : Nat → Int := fun x => if x = c then v else vals x
/-- What a free thread does, alone: it never waits. -/
def freeP : Proc → (Nat → Int) → Option ((Nat → Int) × List Ans)
  | .ret out, vals => some (vals, out)
  | .note _ _ _ k, vals => freeP k vals
  | .step c _ f k, vals => freeP (k (vals c)) (updV vals c (f (vals c)))
  | .await _ _, _ => none
  | .bad, _ => none
def freeS : Stat → (Nat → Int) → Option ((Nat → Int) × List Ans)
  | .go p, vals => freeP p vals
  | .mid c _ f k, vals => freeP (k (vals c)) (updV vals c (f (vals c)))
  | .did _ _ _ _ k, vals => freeP k vals
  | .woke _ _, _ => none
theorem updV_same (vals : Nat → Int) (c : Nat) : updV vals c (vals c) = vals := by
  funext x
  unfold updV
  split
  · rename_i h; rw [h]
  · rfl

/-- A free thread; its cells. -/
structure FreeAt (T cn : Nat) (cb : Nat → Nat) (rb : Nat → Option Obj) (r : (Nat → Int) × List Ans) (o0 : Os) (p0 : Array (Nat × ByteArray)) (p : Stat) (F : Nat → Prop) (u : World) : Prop where
  os : u.os = o0
  outp : u.output = p0
  t : ∃ c : Array Value, u.heap[T]? = some (.cells c 92 (0, 0)) ∧ c[0]? = some (.pointer none)
  tF : ¬ F T
  cells : ∃ vals : Nat → Int, (∀ c, c < cn → u.heap[cb c]? = some (.cells (cCells 0 (vals c)) 105 (0, 0)) ∧ In64 (vals c)) ∧ freeS p vals = some r
  cF : ∀ c, c < cn → ¬ F (cb c)
  ro : ∀ b o, rb b = some o → u.heap[b]? = some o
  roF : ∀ b o, rb b = some o → ¬ F b
  roC : ∀ b o, rb b = some o → ∀ c, c < cn → b ≠ cb c
  inj : ∀ c d, c < cn → d < cn → cb c = cb d → c = d
  lt : ∀ b, F b → b < u.heap.size

section
variable {T cn : Nat} {cb : Nat → Nat} {ro : Nat → Option Obj} {r : (Nat → Int) × List Ans} {p : Stat} {F : Nat → Prop} {u : World} {C : Ctx Try.prog} {fr : Frame} {cs : List Frame}
theorem free62 (hfz : C.fz = true) (ht : ∃ c : Array Value, u.heap[T]? = some (.cells c 92 (0, 0)) ∧ c[0]? = some (.pointer none)) {x y : Value} (hn : Wn C (fr.finish (.tuple #[])) cs u) : Wn C (Frame.enter Try.prog 62 #[ptr T, x, y] .normal) (fr :: cs) u := by
  obtain ⟨c, h1, h2⟩ := ht
  have q0 : u.cell? ⟨T, 0, none⟩ = some (.pointer none) := (blk_cell h1 0).trans h2
  refine Wn.body Try.func62 rfl ?_
  simp only [Try.ntmps62, List.size_toArray, List.length_cons, List.length_nil, Nat.reduceAdd, Nat.reduceSub, Array.replicate_succ, Array.replicate_zero, List.push_toArray, List.append_toArray, List.nil_append, List.cons_append]
  refine Wn.seq (Wn.reg (by simp [base]) (by rw [hfz]; kernel_rfl) ?_)
  go_wp2_with fail
  refine ⟨rfl, ?_⟩
  refine Wn.cond rfl ?_
  simp only [Bool.false_eq_true, if_false]
  refine Wn.skip (Wn.fall ?_)
  refine Wn.back rfl rfl Try.func62 (results_none rfl _ _ _) ?_
  exact hn
theorem free63 (hfz : C.fz = true) (ht : ∃ c : Array Value, u.heap[T]? = some (.cells c 92 (0, 0)) ∧ c[0]? = some (.pointer none)) {x y : Value} (hn : Wn C (fr.finish (.tuple #[])) cs u) : Wn C (Frame.enter Try.prog 63 #[ptr T, x, y] .normal) (fr :: cs) u := by
  obtain ⟨c, h1, h2⟩ := ht
  have q0 : u.cell? ⟨T, 0, none⟩ = some (.pointer none) := (blk_cell h1 0).trans h2
  refine Wn.body Try.func63 rfl ?_
  simp only [Try.ntmps63, List.size_toArray, List.length_cons, List.length_nil, Nat.reduceAdd, Nat.reduceSub, Array.replicate_succ, Array.replicate_zero, List.push_toArray, List.append_toArray, List.nil_append, List.cons_append]
  refine Wn.seq (Wn.seq (Wn.reg (by simp [base]) (by rw [hfz]; kernel_rfl) ?_))
  go_wp2_with fail
  refine ⟨rfl, ?_⟩
  refine Wn.cond rfl ?_
  simp only [if_true]
  refine Wn.ret ?_
  refine Wn.back rfl rfl Try.func63 (results_none rfl _ _ _) ?_
  exact hn
theorem free95 (hfz : C.fz = true) (ht : ∃ c : Array Value, u.heap[T]? = some (.cells c 92 (0, 0)) ∧ c[0]? = some (.pointer none)) {x y z : Value} (hn : Wn C (fr.finish (.tuple #[])) cs u) : Wn C (Frame.enter Try.prog 95 #[ptr T, x, y, z] .normal) (fr :: cs) u := by
  obtain ⟨c, h1, h2⟩ := ht
  have q0 : u.cell? ⟨T, 0, none⟩ = some (.pointer none) := (blk_cell h1 0).trans h2
  refine Wn.body Try.func95 rfl ?_
  simp only [Try.ntmps95, List.size_toArray, List.length_cons, List.length_nil, Nat.reduceAdd, Nat.reduceSub, Array.replicate_succ, Array.replicate_zero, List.push_toArray, List.append_toArray, List.nil_append, List.cons_append]
  refine Wn.seq (Wn.reg (by simp [base]) (by rw [hfz]; kernel_rfl) ?_)
  go_wp2_with fail
  refine ⟨rfl, ?_⟩
  refine Wn.cond rfl ?_
  simp only [Bool.false_eq_true, if_false]
  refine Wn.skip (Wn.fall ?_)
  refine Wn.back rfl rfl Try.func95 (results_none rfl _ _ _) ?_
  exact hn
end

def freeMode (C0 : Ctx Try.prog) (hfz : C0.fz = true) (hS : C0.S = S0) (T cn : Nat) (cb : Nat → Nat) (ro : Nat → Option Obj) (r : (Nat → Int) × List Ans) (o0 : Os) (p0 : Array (Nat × ByteArray)) : Mode where
  T := T
  cn := cn
  cid _ := 0
  cb := cb
  ro := ro
  At p F u C := C = C0 ∧ FreeAt T cn cb ro r o0 p0 p F u
  plain := by rintro p F u C ⟨rfl, h⟩; exact ⟨hfz, hS⟩
  nobad := by
    rintro F u C ⟨rfl, h⟩
    obtain ⟨vals, _, h⟩ := h.cells
    cases h
  on := by rintro p F u C ⟨rfl, h⟩ τ d; exact ⟨rfl, ⟨h.os, h.outp, h.t, h.tF, h.cells, h.cF, h.ro, h.roF, h.roC, h.inj, h.lt⟩⟩
  less := by
    rintro p F F' u C ⟨rfl, h⟩ hF
    exact ⟨rfl, ⟨h.os, h.outp, h.t, fun h' => h.tF (hF _ h'), h.cells, fun c hc h' => h.cF c hc (hF _ h'), h.ro, fun b o ho h' => h.roF b o ho (hF _ h'), h.roC, h.inj, fun b hb => h.lt b (hF b hb)⟩⟩
  alloc := by
    rintro p F u C ⟨rfl, h⟩ o
    have hk : ∀ {b o'}, u.heap[b]? = some o' → (u.alloc o).heap[b]? = some o' := fun hb => (heap_alloc (blk_lt hb)).trans hb
    obtain ⟨c0, t1, t2⟩ := h.t
    obtain ⟨vals, c1, c2⟩ := h.cells
    exact ⟨rfl, ⟨h.os, h.outp, ⟨c0, hk t1, t2⟩, fun h' => h'.elim h.tF fun e => by have := blk_lt t1; omega, ⟨vals, fun c hc => ⟨hk (c1 c hc).1, (c1 c hc).2⟩, c2⟩, fun c hc h' => h'.elim (h.cF c hc) fun e => by have := blk_lt (c1 c hc).1; omega, fun b o' ho => hk (h.ro b o' ho), fun b o' ho h' => h'.elim (h.roF b o' ho) fun e => by have := blk_lt (h.ro b o' ho); omega, h.roC, h.inj,
      fun b hb => by rw [size_alloc]; rcases hb with hb | hb; · have := h.lt b hb; omega
                     · omega⟩⟩
  set := by
    rintro p F u C ⟨rfl, h⟩ a v ha
    have hk : ∀ {b}, ¬ F b → (u.setCell a v).heap[b]? = u.heap[b]? := fun hb => blk_set_ne (a := a) (fun e => hb (by rw [e]; exact ha)) v
    obtain ⟨c0, t1, t2⟩ := h.t
    obtain ⟨vals, c1, c2⟩ := h.cells
    exact ⟨rfl, ⟨h.os, h.outp, ⟨c0, (hk h.tF).trans t1, t2⟩, h.tF, ⟨vals, fun c hc => ⟨(hk (h.cF c hc)).trans (c1 c hc).1, (c1 c hc).2⟩, c2⟩, h.cF, fun b o ho => (hk (h.roF b o ho)).trans (h.ro b o ho), h.roF, h.roC, h.inj, fun b hb => by rw [size_set]; exact h.lt b hb⟩⟩
  grow := by
    rintro p F u u' C ⟨rfl, h⟩ hb hs hos hout
    have hk : ∀ {b o'}, u.heap[b]? = some o' → ¬ F b → u'.heap[b]? = some o' := fun h1 h2 => (hb _ (blk_lt h1) h2).trans h1
    obtain ⟨c0, t1, t2⟩ := h.t
    obtain ⟨vals, c1, c2⟩ := h.cells
    exact ⟨rfl, ⟨hos.trans h.os, hout.trans h.outp, ⟨c0, hk t1 h.tF, t2⟩, fun h' => h'.elim h.tF fun e => by have := blk_lt t1; omega, ⟨vals, fun c hc => ⟨hk (c1 c hc).1 (h.cF c hc), (c1 c hc).2⟩, c2⟩, fun c hc h' => h'.elim (h.cF c hc) fun e => by have := blk_lt (c1 c hc).1; omega, fun b o' ho => hk (h.ro b o' ho) (h.roF b o' ho), fun b o' ho h' => h'.elim (h.roF b o' ho) fun e => by have := blk_lt (h.ro b o' ho); omega, h.roC, h.inj,
      fun b hb => hb.elim (fun hb => Nat.lt_of_lt_of_le (h.lt b hb) hs) fun hb => hb.2⟩⟩
  lt := by rintro p F u C ⟨rfl, h⟩ b hb; exact h.lt b hb
  rof := by rintro p F u C ⟨rfl, h⟩ b o hb; exact h.ro b o hb
  cell := by
    rintro p F u C ⟨rfl, h⟩ c hc
    obtain ⟨vals, c1, c2⟩ := h.cells
    exact ⟨vals c, (c1 c hc).1, (c1 c hc).2, h.cF c hc⟩
  put := by
    rintro c op f k F u C ⟨rfl, h⟩ hc
    obtain ⟨vals, c1, c2⟩ := h.cells
    have hcc := (c1 c hc).1
    refine ⟨vals c, hcc, (c1 c hc).2, fun hf => ⟨rfl, ?_⟩, fun hf => ⟨rfl, ⟨h.os, h.outp, h.t, h.tF, ⟨vals, c1, ?_⟩, h.cF, h.ro, h.roF, h.roC, h.inj, h.lt⟩⟩⟩
    · have hk : ∀ {b}, b ≠ cb c → (u.setCell ⟨cb c, 1, none⟩ (num (f (vals c)))).heap[b]? = u.heap[b]? := fun hb => blk_set_ne (a := ⟨cb c, 1, none⟩) hb _
      obtain ⟨c0, t1, t2⟩ := h.t
      refine ⟨h.os, h.outp, ⟨c0, (hk (ne_of_ty t1 hcc (by decide))).trans t1, t2⟩, h.tF, ⟨updV vals c (f (vals c)), fun d hd => ?_, c2⟩, h.cF, fun b o ho => (hk (h.roC b o ho c hc)).trans (h.ro b o ho), h.roF, h.roC, h.inj, fun b hb => by rw [size_set]; exact h.lt b hb⟩
      unfold updV
      by_cases e : d = c
      · subst e
        simp only [if_true]
        exact ⟨by rw [blk_set hcc]; rfl, hf⟩
      · simp only [if_neg e]
        exact ⟨(hk (fun e' => e (h.inj d c hd hc e'))).trans (c1 d hd).1, (c1 d hd).2⟩
    · have : freeS (.mid c op f k) vals = freeP (k (vals c)) (updV vals c (f (vals c))) := rfl
      rw [this, hf, updV_same] at c2
      exact c2
  turn := by
    rintro c op f k F u C ⟨rfl, h⟩ fr cs hn
    exact free62 hfz h.t (hn F u _ ⟨rfl, ⟨h.os, h.outp, h.t, h.tF, h.cells, h.cF, h.ro, h.roF, h.roC, h.inj, h.lt⟩⟩ (fun _ h => h) (Keep.refl _ _))
  did := by
    rintro c op old new k F u C ⟨rfl, h⟩ hc fr cs hn
    exact free63 hfz h.t (hn u ⟨rfl, ⟨h.os, h.outp, h.t, h.tF, h.cells, h.cF, h.ro, h.roF, h.roC, h.inj, h.lt⟩⟩ (Keep.refl _ _))
  await := by
    rintro c k F u C ⟨rfl, h⟩
    obtain ⟨vals, _, h⟩ := h.cells
    cases h
  note := by
    rintro op a b k F u C ⟨rfl, h⟩ fr cs hn
    exact free95 hfz h.t (hn u ⟨rfl, ⟨h.os, h.outp, h.t, h.tF, h.cells, h.cF, h.ro, h.roF, h.roC, h.inj, h.lt⟩⟩ (Keep.refl _ _))
end Go.Proofs.Ytoabkcalphpkhaa

/- Calls by a free thread: from its cells to its answer. -/
namespace Go.Proofs.Ytoabkcalphpkhaa
open Go Go.Conc Go.RowKit
set_option linter.unusedVariables false
set_option linter.unusedSimpArgs false
set_option linter.unusedSectionVars false
set_option maxRecDepth 100000

/-- All else but some cells. -/
def restRo (cn : Nat) (cb : Nat → Nat) (u : World) : Nat → Option Obj := fun x => if (List.range cn).any (fun c => cb c == x) then none else u.heap[x]?
theorem restRo_none {cn : Nat} {cb : Nat → Nat} {u : World} {c : Nat} (hc : c < cn) : restRo cn cb u (cb c) = none := by
  refine if_pos (List.any_eq_true.2 ⟨c, List.mem_range.2 hc, ?_⟩)
  exact beq_self_eq_true _
theorem restRo_some {cn : Nat} {cb : Nat → Nat} {u : World} {x : Nat} (h : ∀ c, c < cn → x ≠ cb c) : restRo cn cb u x = u.heap[x]? := by
  unfold restRo
  rw [if_neg (fun e => by
    obtain ⟨c, hc, e⟩ := List.any_eq_true.1 e
    exact h c (List.mem_range.1 hc) (beq_iff_eq.1 e).symm)]
theorem restRo_ne {cn : Nat} {cb : Nat → Nat} {u : World} {x : Nat} {o : Obj} (h : restRo cn cb u x = some o) {c : Nat} (hc : c < cn) : x ≠ cb c := fun e => by
  rw [e, restRo_none hc] at h; cases h
theorem restRo_of {cn : Nat} {cb : Nat → Nat} {u : World} {x : Nat} {o : Obj} (h : restRo cn cb u x = some o) : u.heap[x]? = some o := by
  rw [restRo_some fun c hc => restRo_ne h hc] at h
  exact h

abbrev freeM (Post : Value → World → Prop) (N T cn : Nat) (cb : Nat → Nat) (u : World) (r : (Nat → Int) × List Ans) : Mode := freeMode (ctxP Post N S0 list0) rfl rfl T cn cb (restRo cn cb u) r u.os u.output
section
variable {Post : Value → World → Prop} {N T cn : Nat} {cb : Nat → Nat} {u : World} {r : (Nat → Int) × List Ans} {p : Proc} {vals : Nat → Int}
theorem free_at (ht : ∃ c : Array Value, u.heap[T]? = some (.cells c 92 (0, 0)) ∧ c[0]? = some (.pointer none)) (hc : ∀ c, c < cn → u.heap[cb c]? = some (.cells (cCells 0 (vals c)) 105 (0, 0)) ∧ In64 (vals c)) (hi : ∀ c d, c < cn → d < cn → cb c = cb d → c = d) (hp : freeP p vals = some r) :
    (freeM Post N T cn cb u r).At (.go p) (fun _ => False) u (ctxP Post N S0 list0) :=
  ⟨rfl, rfl, rfl, ht, fun h => h, ⟨vals, hc, hp⟩, fun _ _ h => h, fun x o ho => restRo_of ho, fun _ _ _ h => h, fun x o ho c hcn => restRo_ne ho hcn, hi, fun _ h => h.elim⟩
/-- What stands behind a free call. -/
structure FreeEnd (cn : Nat) (cb : Nat → Nat) (vals : Nat → Int) (u u' : World) : Prop where
  cells : ∀ c, c < cn → u'.heap[cb c]? = some (.cells (cCells 0 (vals c)) 105 (0, 0)) ∧ In64 (vals c)
  keep : ∀ x, x < u.heap.size → (∀ c, c < cn → x ≠ cb c) → u'.heap[x]? = u.heap[x]?
  size : u.heap.size ≤ u'.heap.size
  os : u'.os = u.os
  outp : u'.output = u.output
theorem free_end {F : Nat → Prop} {u' : World} {C : Ctx Try.prog} {out : List Ans} (h0 : ∀ c, c < cn → cb c < u.heap.size) (h : (freeM Post N T cn cb u r).At (.go (.ret out)) F u' C) : C = ctxP Post N S0 list0 ∧ r.2 = out ∧ FreeEnd cn cb r.1 u u' := by
  obtain ⟨rfl, h⟩ := h
  obtain ⟨vals, h1, h2⟩ := h.cells
  have h2 : some (vals, out) = some r := h2
  obtain rfl := Option.some.inj h2
  have hk : ∀ x, x < u.heap.size → (∀ c, c < cn → x ≠ cb c) → u'.heap[x]? = u.heap[x]? := fun x hx hn => by
    have := h.ro x _ (by rw [restRo_some hn]; exact Array.getElem?_eq_getElem hx)
    rw [this, Array.getElem?_eq_getElem hx]
  refine ⟨rfl, rfl, h1, hk, ?_, h.os, h.outp⟩
  refine Nat.le_of_not_lt fun hlt => ?_
  by_cases hc : ∃ c, c < cn ∧ u'.heap.size = cb c
  · obtain ⟨c, hc, e⟩ := hc
    have := blk_lt (h1 c hc).1
    omega
  · have := hk _ hlt fun c hcn e => hc ⟨c, hcn, e⟩
    rw [Array.getElem?_eq_none (Nat.le_refl _), Array.getElem?_eq_getElem hlt] at this
    cases this
end
end Go.Proofs.Ytoabkcalphpkhaa

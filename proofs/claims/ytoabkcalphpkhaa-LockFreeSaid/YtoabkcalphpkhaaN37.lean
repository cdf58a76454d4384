/- Merged: FreeL, Free7. -/
import Derived.Test.YtoabkcalphpkhaaN35
import Derived.Test.YtoabkcalphpkhaaN32
/- LockFree: two locks, called by a free thread. (Printed by gen_freel.py.) -/
namespace Go.Proofs.Ytoabkcalphpkhaa
open Go Go.Conc Go.RowKit
open Go.Proofs.YtoabkcalphpkhaaW.PrintWords
set_option linter.unusedVariables false
set_option linter.unusedSimpArgs false
set_option linter.unusedSectionVars false
set_option maxRecDepth 100000

theorem i64_and1 (n : Int) : bits .and .i64 n 1 = n % 2 := by
  have h1 : (BitVec.ofInt 64 1).toNat = 2 ^ 1 - 1 := by decide
  have key : (BitVec.ofInt 64 n &&& BitVec.ofInt 64 1).toNat = (n % ((2 ^ 64 : Nat) : Int)).toNat % 2 ^ 1 := by
    rw [BitVec.toNat_and, BitVec.toNat_ofInt, h1, Nat.and_two_pow_sub_one_eq_mod]
  show IntKind.i64.wrap ((BitVec.ofInt 64 n &&& BitVec.ofInt 64 1).toNat : Nat) = n % 2
  rw [key, IntKind.wrap_i64]
  omega

def lkCb (c0 c1 : Nat) : Nat → Nat := fun c => if c = 0 then c0 else c1
def lkV (x y : Int) : Nat → Int := fun c => if c = 0 then x else y
theorem freeL_lock {x : Int} : freeP (lockP 0 1 (fun b => .ret [⟨if b then 1 else 0, 0⟩]) 1) (lkV x x) = some (updV (updV (lkV x x) 0 (wrap64 (x + 1))) 1 x, [⟨1, 0⟩]) := by
  simp [lockP, untilP, freeP, updV, lkV]
theorem freeL_try {x y : Int} {e : Bool} (he : e = decide (x = y)) : freeP (tryP 0 1 (fun b => .ret [⟨if b then 1 else 0, 0⟩])) (lkV x y) = some (updV (updV (lkV x y) 1 y) 0 (if x = y then wrap64 (y + 1) else x), [⟨if e then 1 else 0, 0⟩]) := by
  subst he
  simp [tryP, freeP, updV, lkV]
theorem freeL_unlock {x y : Int} : freeP (.step 1 5 (fun v => wrap64 (v + 1)) fun _ => .ret []) (lkV x y) = some (updV (lkV x y) 1 (wrap64 (y + 1)), []) := by
  simp [freeP, lkV]

section
variable {Post : Value → World → Prop} {N : Nat} {u : World} {fr : Frame} {cs : List Frame} {T c0 c1 lk : Nat}
/-- A lock, and a free thread, in memory. -/
structure LkAt (T c0 c1 lk : Nat) (x y : Int) (u : World) : Prop where
  t : ∃ c : Array Value, u.heap[T]? = some (.cells c 92 (0, 0)) ∧ c[0]? = some (.pointer none)
  h0 : u.heap[c0]? = some (.cells (cCells 0 x) 105 (0, 0))
  h1 : u.heap[c1]? = some (.cells (cCells 0 y) 105 (0, 0))
  ne : c0 ≠ c1
  hl : u.heap[lk]? = some (.cells #[ptr c0, ptr c1] 95 (0, 0))
  hx : In64 x
  hy : In64 y
structure KeptTwo (c0 c1 : Nat) (u u' : World) : Prop where
  blk : ∀ z, z < u.heap.size → z ≠ c0 → z ≠ c1 → u'.heap[z]? = u.heap[z]?
  size : u.heap.size ≤ u'.heap.size
  os : u'.os = u.os
  outp : u'.output = u.output
theorem LkAt.next {x y : Int} {vals : Nat → Int} {u' : World} (h : LkAt T c0 c1 lk x y u) (he : FreeEnd 2 (lkCb c0 c1) vals u u') : LkAt T c0 c1 lk (vals 0) (vals 1) u' := by
  obtain ⟨c, t1, t2⟩ := h.t
  have hne : ∀ {z t : Nat} {c : Array Value}, u.heap[z]? = some (.cells c t (0, 0)) → t ≠ 105 → ∀ c, c < 2 → z ≠ lkCb c0 c1 c := fun hz ht c hc => by
    unfold lkCb
    split
    · exact ne_of_ty hz h.h0 ht
    · exact ne_of_ty hz h.h1 ht
  exact ⟨⟨c, (he.keep T (blk_lt t1) (hne t1 (by decide))).trans t1, t2⟩, (he.cells 0 (by decide)).1, (he.cells 1 (by decide)).1, h.ne, (he.keep lk (blk_lt h.hl) (hne h.hl (by decide))).trans h.hl, (he.cells 0 (by decide)).2, (he.cells 1 (by decide)).2⟩
theorem FreeEnd.kept2 {vals : Nat → Int} {u' : World} (he : FreeEnd 2 (lkCb c0 c1) vals u u') : KeptTwo c0 c1 u u' :=
  ⟨fun z hz h0 h1 => he.keep z hz fun c _ => by unfold lkCb; split <;> assumption, he.size, he.os, he.outp⟩
theorem LkAt.moved {d0 d1 : Nat} {x y : Int} {u' : World} (h : LkAt T c0 c1 lk x y u) (hk : KeptTwo d0 d1 u u') (d : ∃ v w, u.heap[d0]? = some (.cells (cCells 0 v) 105 (0, 0)) ∧ u.heap[d1]? = some (.cells (cCells 0 w) 105 (0, 0))) (e : c0 ≠ d0 ∧ c0 ≠ d1 ∧ c1 ≠ d0 ∧ c1 ≠ d1) : LkAt T c0 c1 lk x y u' := by
  obtain ⟨c, t1, t2⟩ := h.t
  obtain ⟨v, w, k0, k1⟩ := d
  have hne : ∀ {z t : Nat} {c : Array Value}, u.heap[z]? = some (.cells c t (0, 0)) → t ≠ 105 → u'.heap[z]? = u.heap[z]? := fun hz ht => hk.blk _ (blk_lt hz) (ne_of_ty hz k0 ht) (ne_of_ty hz k1 ht)
  exact ⟨⟨c, (hne t1 (by decide)).trans t1, t2⟩, (hk.blk _ (blk_lt h.h0) e.1 e.2.1).trans h.h0, (hk.blk _ (blk_lt h.h1) e.2.2.1 e.2.2.2).trans h.h1, h.ne, (hne h.hl (by decide)).trans h.hl, h.hx, h.hy⟩
theorem LkAt.blk {x y : Int} {u' : World} (h : LkAt T c0 c1 lk x y u) (hk : ∀ (z t : Nat) (c : Array Value), u.heap[z]? = some (.cells c t (0, 0)) → t ≠ 3 → u'.heap[z]? = u.heap[z]?) : LkAt T c0 c1 lk x y u' := by
  obtain ⟨c, t1, t2⟩ := h.t
  exact ⟨⟨c, (hk _ _ _ t1 (by decide)).trans t1, t2⟩, (hk _ _ _ h.h0 (by decide)).trans h.h0, (hk _ _ _ h.h1 (by decide)).trans h.h1, h.ne, (hk _ _ _ h.hl (by decide)).trans h.hl, h.hx, h.hy⟩
theorem LkAt.go {x y : Int} {p : Proc} {r : (Nat → Int) × List Ans} (h : LkAt T c0 c1 lk x y u) (hp : freeP p (lkV x y) = some r) : (freeM Post N T 2 (lkCb c0 c1) u r).At (.go p) (fun _ => False) u (ctxP Post N S0 list0) := by
  refine free_at h.t (fun c hc => ?_) (fun c d hc hd e => ?_) hp
  · unfold lkCb lkV
    split
    · exact ⟨h.h0, h.hx⟩
    · exact ⟨h.h1, h.hy⟩
  · have := h.ne
    unfold lkCb at e
    split at e <;> split at e <;> omega
theorem LkAt.ro {x y : Int} (h : LkAt T c0 c1 lk x y u) : restRo 2 (lkCb c0 c1) u lk = some (.cells #[ptr c0, ptr c1] 95 (0, 0)) := by
  rw [restRo_some fun c _ => ?_]
  · exact h.hl
  · unfold lkCb
    split
    · exact ne_of_ty h.hl h.h0 (by decide)
    · exact ne_of_ty h.hl h.h1 (by decide)
theorem LkAt.lt {x y : Int} (h : LkAt T c0 c1 lk x y u) : ∀ c, c < 2 → lkCb c0 c1 c < u.heap.size := fun c _ => by
  unfold lkCb
  split
  · exact blk_lt h.h0
  · exact blk_lt h.h1
theorem lock_call {x y : Int} (hxy : x = y) (h : LkAt T c0 c1 lk x y u) (hn : ∀ u', LkAt T c0 c1 lk (wrap64 (x + 1)) y u' → KeptTwo c0 c1 u u' → Wn (ctxQ Post N) (fr.finish (.bool true)) cs u') :
    Wn (ctxQ Post N) (Frame.enter Try.prog 27 #[ptr lk, ptr T] .normal) (fr :: cs) u := by
  subst hxy
  refine Wn.toP (S := S0) (l := list0) ?_
  refine lock27 (c0 := 0) (c1 := 1) (M := freeM Post N T 2 (lkCb c0 c1) u _) (h.go freeL_lock) (by show 0 < 2; decide) (by show 1 < 2; decide) h.ro ?_
  intro e' F' u' C' hat _ _
  obtain ⟨rfl, h1, h2⟩ := free_end h.lt hat
  have he' : e' = true := by
    injection h1 with h3
    injection h3 with h4
    cases e' <;> simp at h4 ⊢
  subst he'
  exact Wn.toQ (hn u' (h.next h2) h2.kept2)
theorem try_call {x y : Int} {e : Bool} (he : e = decide (x = y)) (h : LkAt T c0 c1 lk x y u) (hn : ∀ u', LkAt T c0 c1 lk (if x = y then wrap64 (y + 1) else x) y u' → KeptTwo c0 c1 u u' → Wn (ctxQ Post N) (fr.finish (.bool e)) cs u') :
    Wn (ctxQ Post N) (Frame.enter Try.prog 28 #[ptr lk, ptr T] .normal) (fr :: cs) u := by
  refine Wn.toP (S := S0) (l := list0) ?_
  refine try28 (c0 := 0) (c1 := 1) (M := freeM Post N T 2 (lkCb c0 c1) u _) (h.go (freeL_try he)) (by show 0 < 2; decide) (by show 1 < 2; decide) h.ro ?_
  intro e' F' u' C' hat _ _
  obtain ⟨rfl, h1, h2⟩ := free_end h.lt hat
  have he' : e' = e := by
    injection h1 with h3
    injection h3 with h4
    cases e <;> cases e' <;> simp at h4 ⊢
  subst he'
  exact Wn.toQ (hn u' (h.next h2) h2.kept2)
theorem unlock_call {x y : Int} (h : LkAt T c0 c1 lk x y u) (hn : ∀ u', LkAt T c0 c1 lk x (wrap64 (y + 1)) u' → KeptTwo c0 c1 u u' → Wn (ctxQ Post N) (fr.finish (.tuple #[])) cs u') :
    Wn (ctxQ Post N) (Frame.enter Try.prog 29 #[ptr lk, ptr T] .normal) (fr :: cs) u := by
  refine Wn.toP (S := S0) (l := list0) ?_
  refine unlock29 (c0 := 0) (c1 := 1) (M := freeM Post N T 2 (lkCb c0 c1) u _) (h.go freeL_unlock) (by show 1 < 2; decide) h.ro ?_
  intro v F' u' C' hat _ _
  obtain ⟨rfl, h1, h2⟩ := free_end h.lt hat
  exact Wn.toQ (hn u' (h.next h2) h2.kept2)
end
end Go.Proofs.Ytoabkcalphpkhaa

/- LockFree, walked. (Printed by gen_free7.py.) -/
namespace Go.Proofs.Ytoabkcalphpkhaa
open Go Go.Conc Go.RowKit
open Go.Proofs.YtoabkcalphpkhaaW.PrintWords
set_option linter.unusedVariables false
set_option linter.unusedSimpArgs false
set_option linter.unusedSectionVars false
set_option maxRecDepth 100000

theorem infoI3 : (Try.prog.info? 3).map (fun i => (i.zero, i.size, i.bytes)) = some (some (num 0), 1, 8) := by kernel_rfl
theorem make2 {a : Act} {o : Oper} {x y : Operand} (ho : o.op = .makeSlice 22 x y) (hx : a.eval x = num 2) (hy : a.eval y = num 2) (w : World) :
    (execOp a.eval o).run Try.prog w = .ok (.value (.slice (some ⟨w.heap.size, 0, none⟩) 2 2)) (w.alloc (.cells #[num 0, num 0] 3)) := by
  obtain ⟨i0, hi, hzz⟩ := Option.map_eq_some_iff.1 infoI3
  simp only [Prod.mk.injEq] at hzz
  obtain ⟨hz0, hz1, hz2⟩ := hzz
  have hr := run_make (P := Try.prog) w 22 3 i0 _ Try.underlying22 hi hz0 .i64 .i64 2 2 (by omega) (by omega) (by rw [hz2]; omega) (by omega)
  have e : madeCells (num 0).cells (2 * 1) = #[num 0, num 0] := by kernel_rfl
  simp only [hz1] at hr
  have hr' : (Instr.makeSlice 22 (num 2) (num 2)).run Try.prog w = .ok (.slice (some ⟨w.heap.size, 0, none⟩) 2 2) (w.alloc (.cells (madeCells (num 0).cells (2 * 1)) 3)) := hr
  rw [e] at hr'
  simp [execOp, ho, hx, hy, hr']
/-- What stands at the head of a round. -/
structure FQ (T a0 a1 la b0 b1 lb nb mb : Nat) (x0 y0 x1 y1 n0 n1 m0 m1 : Int) (u w : World) : Prop where
  a : LkAt T a0 a1 la x0 y0 w
  b : LkAt T b0 b1 lb x1 y1 w
  nx : w.heap[nb]? = some (.cells #[num n0, num n1] 3 (0, 0))
  nw : w.heap[mb]? = some (.cells #[num m0, num m1] 3 (0, 0))
  g : Grown u w
structure FApart (u : World) (a0 a1 b0 b1 nb mb : Nat) : Prop where
  ab : a0 ≠ b0 ∧ a0 ≠ b1 ∧ a1 ≠ b0 ∧ a1 ≠ b1
  n : u.heap.size ≤ a0 ∧ u.heap.size ≤ a1 ∧ u.heap.size ≤ b0 ∧ u.heap.size ≤ b1
  nm : nb ≠ mb ∧ u.heap.size ≤ nb ∧ u.heap.size ≤ mb
section
variable {T a0 a1 la b0 b1 lb nb mb : Nat} {x0 y0 x1 y1 n0 n1 m0 m1 : Int} {u w : World}
theorem FQ.lockA {x y : Int} {w' : World} (d : FApart u a0 a1 b0 b1 nb mb) (h : FQ T a0 a1 la b0 b1 lb nb mb x0 y0 x1 y1 n0 n1 m0 m1 u w) (hl : LkAt T a0 a1 la x y w') (hk : KeptTwo a0 a1 w w') : FQ T a0 a1 la b0 b1 lb nb mb x y x1 y1 n0 n1 m0 m1 u w' :=
  ⟨hl, h.b.moved hk ⟨_, _, h.a.h0, h.a.h1⟩ ⟨d.ab.1.symm, d.ab.2.2.1.symm, d.ab.2.1.symm, d.ab.2.2.2.symm⟩, (hk.blk _ (blk_lt h.nx) (ne_of_ty h.nx h.a.h0 (by decide)) (ne_of_ty h.nx h.a.h1 (by decide))).trans h.nx, (hk.blk _ (blk_lt h.nw) (ne_of_ty h.nw h.a.h0 (by decide)) (ne_of_ty h.nw h.a.h1 (by decide))).trans h.nw,
    ⟨fun z hz => (hk.blk z (Nat.lt_of_lt_of_le hz h.g.size) (by have := d.n.1; omega) (by have := d.n.2.1; omega)).trans (h.g.blk z hz), Nat.le_trans h.g.size hk.size, hk.os.trans h.g.os, hk.outp.trans h.g.out⟩⟩
theorem FQ.lockB {x y : Int} {w' : World} (d : FApart u a0 a1 b0 b1 nb mb) (h : FQ T a0 a1 la b0 b1 lb nb mb x0 y0 x1 y1 n0 n1 m0 m1 u w) (hl : LkAt T b0 b1 lb x y w') (hk : KeptTwo b0 b1 w w') : FQ T a0 a1 la b0 b1 lb nb mb x0 y0 x y n0 n1 m0 m1 u w' :=
  ⟨h.a.moved hk ⟨_, _, h.b.h0, h.b.h1⟩ d.ab, hl, (hk.blk _ (blk_lt h.nx) (ne_of_ty h.nx h.b.h0 (by decide)) (ne_of_ty h.nx h.b.h1 (by decide))).trans h.nx, (hk.blk _ (blk_lt h.nw) (ne_of_ty h.nw h.b.h0 (by decide)) (ne_of_ty h.nw h.b.h1 (by decide))).trans h.nw,
    ⟨fun z hz => (hk.blk z (Nat.lt_of_lt_of_le hz h.g.size) (by have := d.n.2.2.1; omega) (by have := d.n.2.2.2; omega)).trans (h.g.blk z hz), Nat.le_trans h.g.size hk.size, hk.os.trans h.g.os, hk.outp.trans h.g.out⟩⟩
theorem FQ.set {z i : Nat} {v : Value} {n0' n1' m0' m1' : Int} (h : FQ T a0 a1 la b0 b1 lb nb mb x0 y0 x1 y1 n0 n1 m0 m1 u w) (hz : ∃ c, w.heap[z]? = some (.cells c 3 (0, 0))) (hu : u.heap.size ≤ z) (h1 : (w.setCell ⟨z, i, none⟩ v).heap[nb]? = some (.cells #[num n0', num n1'] 3 (0, 0))) (h2 : (w.setCell ⟨z, i, none⟩ v).heap[mb]? = some (.cells #[num m0', num m1'] 3 (0, 0))) : FQ T a0 a1 la b0 b1 lb nb mb x0 y0 x1 y1 n0' n1' m0' m1' u (w.setCell ⟨z, i, none⟩ v) := by
  obtain ⟨cz, hz⟩ := hz
  have hk : ∀ (y t : Nat) (c : Array Value), w.heap[y]? = some (.cells c t (0, 0)) → t ≠ 3 → (w.setCell ⟨z, i, none⟩ v).heap[y]? = w.heap[y]? := fun y t c hy ht => blk_set_ne (ne_of_ty hy hz ht) v
  refine ⟨h.a.blk hk, h.b.blk hk, h1, h2, ⟨fun y hy => (blk_set_ne (show y ≠ z by omega) v).trans (h.g.blk y hy), ?_, h.g.os, h.g.out⟩⟩
  rw [size_set]; exact h.g.size
theorem FQ.setN0 {v : Int} (d : FApart u a0 a1 b0 b1 nb mb) (h : FQ T a0 a1 la b0 b1 lb nb mb x0 y0 x1 y1 n0 n1 m0 m1 u w) : FQ T a0 a1 la b0 b1 lb nb mb x0 y0 x1 y1 v n1 m0 m1 u (w.setCell ⟨nb, 0, none⟩ (num v)) :=
  h.set ⟨_, h.nx⟩ d.nm.2.1 (blk_set h.nx 0 _) ((blk_set_ne (Ne.symm d.nm.1) _).trans h.nw)
theorem FQ.setN1 {v : Int} (d : FApart u a0 a1 b0 b1 nb mb) (h : FQ T a0 a1 la b0 b1 lb nb mb x0 y0 x1 y1 n0 n1 m0 m1 u w) : FQ T a0 a1 la b0 b1 lb nb mb x0 y0 x1 y1 n0 v m0 m1 u (w.setCell ⟨nb, 1, none⟩ (num v)) :=
  h.set ⟨_, h.nx⟩ d.nm.2.1 (blk_set h.nx 1 _) ((blk_set_ne (Ne.symm d.nm.1) _).trans h.nw)
theorem FQ.setM0 {v : Int} (d : FApart u a0 a1 b0 b1 nb mb) (h : FQ T a0 a1 la b0 b1 lb nb mb x0 y0 x1 y1 n0 n1 m0 m1 u w) : FQ T a0 a1 la b0 b1 lb nb mb x0 y0 x1 y1 n0 n1 v m1 u (w.setCell ⟨mb, 0, none⟩ (num v)) :=
  h.set ⟨_, h.nw⟩ d.nm.2.2 ((blk_set_ne d.nm.1 _).trans h.nx) (blk_set h.nw 0 _)
theorem FQ.setM1 {v : Int} (d : FApart u a0 a1 b0 b1 nb mb) (h : FQ T a0 a1 la b0 b1 lb nb mb x0 y0 x1 y1 n0 n1 m0 m1 u w) : FQ T a0 a1 la b0 b1 lb nb mb x0 y0 x1 y1 n0 n1 m0 v u (w.setCell ⟨mb, 1, none⟩ (num v)) :=
  h.set ⟨_, h.nw⟩ d.nm.2.2 ((blk_set_ne d.nm.1 _).trans h.nx) (blk_set h.nw 1 _)
end
theorem slots7 {a : Act} {x0 x1 x2 x3 x4 x5 x6 x7 x8 x9 : Value} (hs : a.tmps.size = 105) (hd : a.defers = []) (h0 : a.tmps[0]? = some x0) (h1 : a.tmps[1]? = some x1) (h2 : a.tmps[2]? = some x2) (h3 : a.tmps[3]? = some x3) (h4 : a.tmps[4]? = some x4) (h5 : a.tmps[5]? = some x5) (h6 : a.tmps[6]? = some x6) (h7 : a.tmps[7]? = some x7) (h8 : a.tmps[8]? = some x8) (h9 : a.tmps[9]? = some x9) : ∃ vs : Nat → Value, a = { tmps := #[x0, x1, x2, x3, x4, x5, x6, x7, x8, x9, vs 10, vs 11, vs 12, vs 13, vs 14, vs 15, vs 16, vs 17, vs 18, vs 19, vs 20, vs 21, vs 22, vs 23, vs 24, vs 25, vs 26, vs 27, vs 28, vs 29, vs 30, vs 31, vs 32, vs 33, vs 34, vs 35, vs 36, vs 37, vs 38, vs 39, vs 40, vs 41, vs 42, vs 43, vs 44, vs 45, vs 46, vs 47, vs 48, vs 49, vs 50, vs 51, vs 52, vs 53, vs 54, vs 55, vs 56, vs 57, vs 58, vs 59, vs 60, vs 61, vs 62, vs 63, vs 64, vs 65, vs 66, vs 67, vs 68, vs 69, vs 70, vs 71, vs 72, vs 73, vs 74, vs 75, vs 76, vs 77, vs 78, vs 79, vs 80, vs 81, vs 82, vs 83, vs 84, vs 85, vs 86, vs 87, vs 88, vs 89, vs 90, vs 91, vs 92, vs 93, vs 94, vs 95, vs 96, vs 97, vs 98, vs 99, vs 100, vs 101, vs 102, vs 103, vs 104], defers := [] } := by
  obtain ⟨⟨l⟩, d⟩ := a
  obtain rfl : d = [] := hd
  have hl : l.length = 105 := hs
  obtain ⟨f, hf⟩ : ∃ f : Nat → Value, f = fun n => l[n]?.getD undef := ⟨_, rfl⟩
  refine ⟨f, ?_⟩
  have e : l = (List.range 105).map f := by
    refine List.ext_getElem (by simp [hl]) fun n h1 h2 => ?_
    simp [hf, h1]
  have e0 : f 0 = x0 := by
    have h : l[0]? = some x0 := by simpa using h0
    rw [hf]
    simp [h]
  have e1 : f 1 = x1 := by
    have h : l[1]? = some x1 := by simpa using h1
    rw [hf]
    simp [h]
  have e2 : f 2 = x2 := by
    have h : l[2]? = some x2 := by simpa using h2
    rw [hf]
    simp [h]
  have e3 : f 3 = x3 := by
    have h : l[3]? = some x3 := by simpa using h3
    rw [hf]
    simp [h]
  have e4 : f 4 = x4 := by
    have h : l[4]? = some x4 := by simpa using h4
    rw [hf]
    simp [h]
  have e5 : f 5 = x5 := by
    have h : l[5]? = some x5 := by simpa using h5
    rw [hf]
    simp [h]
  have e6 : f 6 = x6 := by
    have h : l[6]? = some x6 := by simpa using h6
    rw [hf]
    simp [h]
  have e7 : f 7 = x7 := by
    have h : l[7]? = some x7 := by simpa using h7
    rw [hf]
    simp [h]
  have e8 : f 8 = x8 := by
    have h : l[8]? = some x8 := by simpa using h8
    rw [hf]
    simp [h]
  have e9 : f 9 = x9 := by
    have h : l[9]? = some x9 := by simpa using h9
    rw [hf]
    simp [h]
  rw [← e0, ← e1, ← e2, ← e3, ← e4, ← e5, ← e6, ← e7, ← e8, ← e9]
  exact congrArg (fun l => ({ tmps := ⟨l⟩, defers := [] } : Act)) (e.trans rfl)
set_option maxHeartbeats 4000000 in
theorem free7 {Post : Value → World → Prop} {u : World} {A : Option Addr} {cp : Nat} {xs : List Cal} (hmx : xs.length ≤ 9223372036854775806) (hS : Scr u A xs) (hin : ∀ c ∈ xs, CalIn c)
    (hpost : ∀ w, Grown u w → Post (.bool true) w) : Wn (ctxQ Post 1) (Frame.enter Try.prog 7 #[.slice A xs.length cp] .normal) [] u := by
  have hfz : (ctxQ Post 1).fz = false := rfl
  have hpost : Hid (∀ w, Grown u w → Post (.bool true) w) := hpost
  have HS : Hid (Scr u A xs) := hS
  have HIN : Hid (∀ c ∈ xs, CalIn c) := hin
  clear hS hin
  refine Wn.body Try.func7 rfl ?_
  simp only [Try.ntmps7, List.size_toArray, List.length_cons, List.length_nil, Nat.reduceAdd, Nat.reduceSub, Array.replicate_succ, Array.replicate_zero, List.push_toArray, List.append_toArray, List.nil_append, List.cons_append]
  refine Wn.seq (Wn.reg (by simp [base]) (by rw [hfz]; kernel_rfl) ?_)
  go_wp2_with fail
  refine ⟨rfl, ?_⟩
  refine Wn.seq (Wn.open ?_)
  refine Wn.callC 0 2 1 rfl (by simp [base]) rfl rfl rfl (by kernel_rfl) ?_
  refine awake24 (N := 1) (by decide) ?_
  intro u0 hg0
  rw [Frame.finish_at]
  show Wn (ctxQ Post 2) _ _ _
  have hfz : (ctxQ Post 2).fz = false := rfl
  refine Wn.span1 1 1 1 (by simp [base]) (by decide) (by decide) (by rw [hfz]; kernel_rfl) ?_
  simp only [List.take, List.drop]
  go_wp2_with fail
  refine ⟨rfl, ?_⟩
  refine Wn.range_end (n := 0) ?_
  refine Wn.seq (Wn.open ?_)
  refine Wn.callC 0 2 1 rfl (by simp [base]) rfl rfl rfl (by kernel_rfl) ?_
  refine Wn.toP (S := S0) (l := list0) ?_
  refine turnFree21 rfl ?_
  intro T u1 hT hg1 hTN
  refine Wn.toQ ?_
  rw [Frame.finish_at]
  refine Wn.span1 1 1 1 (by simp [base]) (by decide) (by decide) (by rw [hfz]; kernel_rfl) ?_
  simp only [List.take, List.drop]
  go_wp2_with fail
  refine ⟨rfl, ?_⟩
  refine Wn.range_end (n := 0) ?_
  refine Wn.seq (Wn.open ?_)
  refine Wn.callC 0 2 1 rfl (by simp [base]) rfl rfl rfl (by kernel_rfl) ?_
  refine Wn.toP (S := S0) (l := list0) ?_
  refine lockNew26_nil rfl ?_
  intro a0 a1 la u2 ha0 ha1 hane hla hg2 hNa0 hNa1 hNla
  refine Wn.toQ ?_
  rw [Frame.finish_at]
  refine Wn.span1 1 1 1 (by simp [base]) (by decide) (by decide) (by rw [hfz]; kernel_rfl) ?_
  simp only [List.take, List.drop]
  go_wp2_with fail
  refine ⟨rfl, ?_⟩
  refine Wn.range_end (n := 0) ?_
  refine Wn.seq (Wn.open ?_)
  refine Wn.callC 0 2 1 rfl (by simp [base]) rfl rfl rfl (by kernel_rfl) ?_
  refine Wn.toP (S := S0) (l := list0) ?_
  refine lockNew26_nil rfl ?_
  intro b0 b1 lb u3 hb0 hb1 hbne hlb hg3 hNb0 hNb1 hNlb
  refine Wn.toQ ?_
  rw [Frame.finish_at]
  have i0 : In64 0 := by unfold In64; omega
  have hLA : LkAt T a0 a1 la 0 0 u3 := by
    obtain ⟨c, t1, t2⟩ := hT
    exact ⟨⟨c, (hg3.blk _ (Nat.lt_of_lt_of_le (blk_lt t1) hg2.size)).trans ((hg2.blk _ (blk_lt t1)).trans t1), t2⟩, (hg3.blk _ (blk_lt ha0)).trans ha0, (hg3.blk _ (blk_lt ha1)).trans ha1, hane, (hg3.blk _ (blk_lt hla)).trans hla, i0, i0⟩
  have hLB : LkAt T b0 b1 lb 0 0 u3 := by
    obtain ⟨c, t1, t2⟩ := hLA.t
    exact ⟨⟨c, t1, t2⟩, hb0, hb1, hbne, hlb, i0, i0⟩
  have hab : a0 ≠ b0 ∧ a0 ≠ b1 ∧ a1 ≠ b0 ∧ a1 ≠ b1 := by
    have := blk_lt ha0
    have := blk_lt ha1
    omega
  have HAB : Hid (a0 ≠ b0 ∧ a0 ≠ b1 ∧ a1 ≠ b0 ∧ a1 ≠ b1) := hab
  have HLA : Hid (LkAt T a0 a1 la 0 0 u3) := hLA
  have HLB : Hid (LkAt T b0 b1 lb 0 0 u3) := hLB
  have s0 := hg0.size
  have s1 := hg1.size
  have s2 := hg2.size
  have HN : Hid (u.heap.size ≤ a0 ∧ u.heap.size ≤ a1 ∧ u.heap.size ≤ b0 ∧ u.heap.size ≤ b1) := (show _ ∧ _ by omega)
  have HG : Hid (Grown u u3) := ((hg0.trans hg1).trans hg2).trans hg3
  clear hT ha0 ha1 hane hla hb0 hb1 hbne hlb hg0 hg1 hg2 hg3 hLA hLB hab hNa0 hNa1 hNla hNb0 hNb1 hNlb hTN i0 s0 s1 s2
  refine Wn.span1 1 1 1 (by simp [base]) (by decide) (by decide) (by rw [hfz]; kernel_rfl) ?_
  simp only [List.take, List.drop]
  go_wp2_with fail
  refine ⟨rfl, ?_⟩
  refine Wn.range_end (n := 0) ?_
  refine Wn.seq (Wn.seq (Wn.reg (by simp [base]) (by rw [hfz]; kernel_rfl) ?_))
  go_wp2_with fail
  refine ⟨rfl, ?_⟩
  refine Wn.cond rfl ?_
  simp only [Bool.false_eq_true, if_false]
  refine Wn.skip ?_
  refine Wn.seq (Wn.open ?_)
  refine Wn.opT 0 2 1 rfl (by simp [base]) rfl rfl fun τ e => ?_
  refine wpList_plain rfl fun K hK => ?_
  unfold Oper.wp
  rw [make2 rfl rfl rfl]
  refine hK _ _ (?_ : Wn (ctxQ Post 2) _ _ _)
  refine Wn.on (u := u3.alloc (.cells #[num 0, num 0] 3)) ?_ τ e
  have hsz : (u3.on τ e).heap.size = u3.heap.size := rfl
  rw [hsz]
  clear hsz hK K
  have hnbg := Grown.alloc u3 (.cells #[num 0, num 0] 3)
  have hnb : (u3.alloc (.cells #[num 0, num 0] 3)).heap[u3.heap.size]? = some (.cells #[num 0, num 0] 3 (0, 0)) := heap_alloc_new _ _
  generalize u3.alloc (.cells #[num 0, num 0] 3) = u4 at hnb hnbg ⊢
  have hnbN : u3.heap.size ≤ u3.heap.size := Nat.le_refl _
  obtain ⟨nb, enb⟩ : ∃ nb, Hid (nb = u3.heap.size) := ⟨_, rfl⟩
  rw [← enb.out] at hnb ⊢
  refine Wn.span1 1 1 1 (by simp [base]) (by decide) (by decide) (by rw [hfz]; kernel_rfl) ?_
  simp only [List.take, List.drop]
  go_wp2_with fail
  refine ⟨rfl, ?_⟩
  refine Wn.range_end (n := 0) ?_
  refine Wn.seq (Wn.open ?_)
  refine Wn.opT 0 2 1 rfl (by simp [base]) rfl rfl fun τ e => ?_
  refine wpList_plain rfl fun K hK => ?_
  unfold Oper.wp
  rw [make2 rfl rfl rfl]
  refine hK _ _ (?_ : Wn (ctxQ Post 2) _ _ _)
  refine Wn.on (u := u4.alloc (.cells #[num 0, num 0] 3)) ?_ τ e
  have hsz : (u4.on τ e).heap.size = u4.heap.size := rfl
  rw [hsz]
  clear hsz hK K
  have hmbg := Grown.alloc u4 (.cells #[num 0, num 0] 3)
  have hmb : (u4.alloc (.cells #[num 0, num 0] 3)).heap[u4.heap.size]? = some (.cells #[num 0, num 0] 3 (0, 0)) := heap_alloc_new _ _
  generalize u4.alloc (.cells #[num 0, num 0] 3) = u5 at hmb hmbg ⊢
  have hmbN : u4.heap.size ≤ u4.heap.size := Nat.le_refl _
  obtain ⟨mb, emb⟩ : ∃ mb, Hid (mb = u4.heap.size) := ⟨_, rfl⟩
  rw [← emb.out] at hmb ⊢
  refine Wn.span1 1 1 1 (by simp [base]) (by decide) (by decide) (by rw [hfz]; kernel_rfl) ?_
  simp only [List.take, List.drop]
  go_wp2_with fail
  refine ⟨rfl, ?_⟩
  refine Wn.range_end (n := 0) ?_
  have hq : FQ T a0 a1 la b0 b1 lb nb mb 0 0 0 0 0 0 0 0 u u5 := by
    have hk : ∀ (z t : Nat) (c : Array Value), u3.heap[z]? = some (.cells c t (0, 0)) → t ≠ 3 → u5.heap[z]? = u3.heap[z]? := fun z t c h _ => ((hnbg.trans hmbg).blk z (blk_lt h))
    exact ⟨HLA.out.blk hk, HLB.out.blk hk, (hmbg.blk _ (blk_lt hnb)).trans hnb, hmb, (HG.out.trans hnbg).trans hmbg⟩
  have hap : FApart u a0 a1 b0 b1 nb mb := ⟨HAB.out, HN.out, by have := enb.out; have := emb.out; have := HG.out.size; have := blk_lt hnb; have := hnbg.size; omega⟩
  have HQ : Hid (FQ T a0 a1 la b0 b1 lb nb mb 0 0 0 0 0 0 0 0 u u5) := hq
  have HAP : Hid (FApart u a0 a1 b0 b1 nb mb) := hap
  clear hq hap hmb hnb hmbg hnbg hmbN hnbN enb emb HAB HN HG HLA HLB
  refine Wn.seq (Wn.seq (Wn.reg (by simp [base]) (by rw [hfz]; kernel_rfl) ?_))
  go_wp2_with fail
  refine ⟨rfl, ?_⟩
  refine Wn.block ?_
  refine Wn.loop_ind (f := xs.length - 0 + 1) (fun f a w C1 => C1 = ctxQ Post 2 ∧ ∃ (i : Nat) (x0 y0 x1 y1 : Int), f = xs.length - i + 1 ∧ Hid (i ≤ xs.length) ∧ Hid ((0 ≤ x0 ∧ x0 ≤ i) ∧ (0 ≤ y0 ∧ y0 ≤ i) ∧ (0 ≤ x1 ∧ x1 ≤ i) ∧ (0 ≤ y1 ∧ y1 ≤ i)) ∧ Hid (FQ T a0 a1 la b0 b1 lb nb mb x0 y0 x1 y1 x0 x1 y0 y1 u w) ∧ ∃ vs : Nat → Value, a = { tmps := #[.slice A xs.length cp, undef, .bool false, .bool true, ptr T, ptr la, ptr lb, .slice (some ⟨nb, 0, none⟩) 2 2, .slice (some ⟨mb, 0, none⟩) 2 2, num i, vs 10, vs 11, vs 12, vs 13, vs 14, vs 15, vs 16, vs 17, vs 18, vs 19, vs 20, vs 21, vs 22, vs 23, vs 24, vs 25, vs 26, vs 27, vs 28, vs 29, vs 30, vs 31, vs 32, vs 33, vs 34, vs 35, vs 36, vs 37, vs 38, vs 39, vs 40, vs 41, vs 42, vs 43, vs 44, vs 45, vs 46, vs 47, vs 48, vs 49, vs 50, vs 51, vs 52, vs 53, vs 54, vs 55, vs 56, vs 57, vs 58, vs 59, vs 60, vs 61, vs 62, vs 63, vs 64, vs 65, vs 66, vs 67, vs 68, vs 69, vs 70, vs 71, vs 72, vs 73, vs 74, vs 75, vs 76, vs 77, vs 78, vs 79, vs 80, vs 81, vs 82, vs 83, vs 84, vs 85, vs 86, vs 87, vs 88, vs 89, vs 90, vs 91, vs 92, vs 93, vs 94, vs 95, vs 96, vs 97, vs 98, vs 99, vs 100, vs 101, vs 102, vs 103, vs 104], defers := [] }) ?_ ?_ ⟨rfl, 0, 0, 0, 0, 0, rfl, Nat.zero_le _, (by show (_ ∧ _) ∧ (_ ∧ _) ∧ (_ ∧ _) ∧ (_ ∧ _); omega), HQ, slots7 rfl rfl rfl rfl rfl rfl rfl rfl rfl rfl rfl rfl⟩
  · rintro f ih a w C1 ⟨rfl, i, x0, y0, x1, y1, hf', hi, HBD, HQ, vs, rfl⟩
    by_cases hend : i < xs.length
    · have hci : xs[i]? = some xs[i] := List.getElem?_eq_getElem hend
      obtain ⟨ad, rfl, q0, q1, q2, q3⟩ := HS.out i _ hci
      have hcin := HIN.out xs[i] (List.mem_of_getElem? hci)
      generalize xs[i] = c at q0 q1 q2 q3 hcin
      have q0 := HQ.out.g.cell q0
      have q1 := HQ.out.g.cell q1
      clear q2 q3 hci
      have d1 : decide ((i : Int) < (xs.length : Int)) = true := decide_eq_true (by omega)
      refine Wn.seq (Wn.seq (Wn.reg (by simp [base]) (by rw [hfz]; kernel_rfl) ?_))
      go_wp2_with fail
      refine ⟨rfl, ?_⟩
      refine Wn.cond rfl ?_
      simp only [if_true]
      clear d1
      have d1 : decide ((i : Int) < (xs.length : Int)) = true := decide_eq_true (by omega)
      have d2 : decide ((0 : Int) ≤ (i : Int)) = true := decide_eq_true (by omega)
      have d3 : (i : Int) < (xs.length : Int) := by omega
      have d4 : (0 : Int) ≤ (i : Int) := by omega
      refine Wn.skip (Wn.seq (Wn.block ?_))
      refine Wn.seq (Wn.reg (by simp [base]) (by rw [hfz]; kernel_rfl) ?_)
      go_wp2_with fail
      refine ⟨rfl, ?_⟩
      rw [i64_and1]
      obtain ⟨k, hkk, hk⟩ : ∃ k, Hid (k = c.a % 2) ∧ (k = 0 ∨ k = 1) := ⟨_, rfl, by omega⟩
      rw [← hkk.out]
      clear hkk
      refine Wn.seq (Wn.reg (by simp [base]) (by rw [hfz]; kernel_rfl) ?_)
      go_wp2_with fail
      refine ⟨rfl, ?_⟩
      rcases hk with rfl | rfl
      · skip
        refine Wn.seq (Wn.seq (Wn.reg (by simp [base]) (by rw [hfz]; kernel_rfl) ?_))
        go_wp2_with fail
        refine ⟨rfl, ?_⟩
        refine Wn.cond rfl ?_
        simp only [Bool.false_eq_true, if_false]
        refine Wn.skip (Wn.seq (Wn.reg (by simp [base]) (by rw [hfz]; kernel_rfl) ?_))
        go_wp2_with fail
        refine ⟨rfl, ?_⟩
        clear q1 d1 d2 d3 d4 q0
        refine Wn.block ?_
        have z0 : w.cell? ⟨nb, 0, none⟩ = some (num x0) := (blk_cell HQ.out.nx 0).trans rfl
        have z1 : w.cell? ⟨mb, 0, none⟩ = some (num y0) := (blk_cell HQ.out.nw 0).trans rfl
        by_cases o1 : c.op = 1
        · have d1 : (c.op == 1) = true := beq_iff_eq.mpr o1
          have d2 : decide (c.op = 1) = true := decide_eq_true o1
          refine Wn.seq (Wn.reg (by simp [base]) (by rw [hfz]; kernel_rfl) ?_)
          go_wp2_with fail
          refine ⟨rfl, ?_⟩
          refine Wn.cond rfl ?_
          simp only [if_true]
          clear d1 d2
          by_cases exy : x0 = y0
          · have e1 : (x0 != y0) = false := by rw [exy]; exact bne_self_eq_false _
            refine Wn.seq (Wn.seq (Wn.quiet (by simp [base]) (by rw [hfz]; kernel_rfl) ?_))
            apply Exists.intro
            refine ⟨fun w hw => ?_, ?_⟩
            · have wz0 := cell_of_heap hw z0
              have wz1 := cell_of_heap hw z1
              have hw : Hid _ := hw
              go_quiet (fail)
              exact ⟨rfl, rfl, rfl, rfl⟩
            refine Wn.cond rfl ?_
            simp only [e1, Bool.false_eq_true, if_false]
            clear e1
            refine Wn.skip (Wn.seq (Wn.open ?_))
            refine Wn.span1 0 2 4 (by simp [base]) (by decide) (by decide) (by rw [hfz]; kernel_rfl) ?_
            simp only [List.take, List.drop]
            go_wp2_with fail
            refine ⟨rfl, ?_⟩
            refine Wn.callC 2 2 1 rfl (by simp [base]) rfl rfl rfl (by kernel_rfl) ?_
            refine lock_call exy HQ.out.a ?_
            intro w1 hl1 hk1
            rw [Frame.finish_at]
            have g1 : x0 + 1 ≤ 9223372036854775807 := by have := HBD.out; have := hi.out; omega
            have g2 : -9223372036854775808 ≤ x0 + 1 := by have := HBD.out; omega
            have bw : wrap64 (x0 + 1) = x0 + 1 := by unfold wrap64; omega
            rw [bw] at hl1
            have HQ1 : Hid (FQ T a0 a1 la b0 b1 lb nb mb (x0 + 1) y0 x1 y1 x0 x1 y0 y1 u w1) := HQ.out.lockA HAP.out hl1 hk1
            clear hl1 hk1 bw z0 z1 exy
            refine Wn.span1 3 1 1 (by simp [base]) (by decide) (by decide) (by rw [hfz]; kernel_rfl) ?_
            simp only [List.take, List.drop]
            go_wp2_with fail
            refine ⟨rfl, ?_⟩
            refine Wn.range_end (n := 0) ?_
            refine Wn.seq (Wn.seq (Wn.reg (by simp [base]) (by rw [hfz]; kernel_rfl) ?_))
            go_wp2_with fail
            refine ⟨rfl, ?_⟩
            refine Wn.cond rfl ?_
            simp only [Bool.false_eq_true, if_false]
            have z0 : w1.cell? ⟨nb, 0, none⟩ = some (num x0) := (blk_cell HQ1.out.nx 0).trans rfl
            have z1 : w1.cell? ⟨mb, 0, none⟩ = some (num y0) := (blk_cell HQ1.out.nw 0).trans rfl
            have f0 : w1.frozen? ⟨nb, 0, none⟩ = false := blk_thawed HQ1.out.nx 0
            have f1 : w1.frozen? ⟨mb, 0, none⟩ = false := blk_thawed HQ1.out.nw 0
            refine Wn.skip (Wn.reg (by simp [base]) (by rw [hfz]; kernel_rfl) ?_)
            go_wp2_with fail
            refine ⟨rfl, ?_⟩
            have HQ2 : Hid (FQ T a0 a1 la b0 b1 lb nb mb (x0 + 1) y0 x1 y1 (x0 + 1) x1 y0 y1 u (w1.setCell ⟨nb, 0, none⟩ (num (x0 + 1)))) := HQ1.out.setN0 HAP.out
            clear z0 z1 f0 f1 g1 g2
            refine Wn.inBlock ?_
            refine Wn.inBlock ?_
            refine Wn.reg (by simp [base]) (by rw [hfz]; kernel_rfl) ?_
            go_wp2_with fail
            refine ⟨rfl, ?_⟩
            refine ih _ _ _ ⟨rfl, i + 1, x0 + 1, y0, x1, y1, by have := hi.out; omega, (by have := hi.out; show i + 1 ≤ xs.length; omega), (by have := HBD.out; show (_ ∧ _) ∧ (_ ∧ _) ∧ (_ ∧ _) ∧ (_ ∧ _); omega), HQ2, slots7 rfl rfl rfl rfl rfl rfl rfl rfl rfl rfl rfl rfl⟩
          · have e1 : (x0 != y0) = true := bne_iff_ne.mpr exy
            refine Wn.seq (Wn.seq (Wn.quiet (by simp [base]) (by rw [hfz]; kernel_rfl) ?_))
            apply Exists.intro
            refine ⟨fun w hw => ?_, ?_⟩
            · have wz0 := cell_of_heap hw z0
              have wz1 := cell_of_heap hw z1
              have hw : Hid _ := hw
              go_quiet (fail)
              exact ⟨rfl, rfl, rfl, rfl⟩
            refine Wn.cond rfl ?_
            simp only [e1, if_true]
            clear e1 z0 z1
            refine Wn.exit rfl ?_
            refine Wn.reg (by simp [base]) (by rw [hfz]; kernel_rfl) ?_
            go_wp2_with fail
            refine ⟨rfl, ?_⟩
            refine ih _ _ _ ⟨rfl, i + 1, x0, y0, x1, y1, by have := hi.out; omega, (by have := hi.out; show i + 1 ≤ xs.length; omega), (by have := HBD.out; show (_ ∧ _) ∧ (_ ∧ _) ∧ (_ ∧ _) ∧ (_ ∧ _); omega), HQ, slots7 rfl rfl rfl rfl rfl rfl rfl rfl rfl rfl rfl rfl⟩
        · have d1 : (c.op == 1) = false := beq_eq_false_iff_ne.mpr o1
          have d2 : decide (c.op = 1) = false := decide_eq_false o1
          refine Wn.seq (Wn.reg (by simp [base]) (by rw [hfz]; kernel_rfl) ?_)
          go_wp2_with fail
          refine ⟨rfl, ?_⟩
          refine Wn.cond rfl ?_
          simp only [Bool.false_eq_true, if_false]
          clear d1 d2
          by_cases o2 : c.op = 2
          · have d1 : (c.op == 2) = true := beq_iff_eq.mpr o2
            have d2 : decide (c.op = 2) = true := decide_eq_true o2
            refine Wn.seq (Wn.reg (by simp [base]) (by rw [hfz]; kernel_rfl) ?_)
            go_wp2_with fail
            refine ⟨rfl, ?_⟩
            refine Wn.cond rfl ?_
            simp only [if_true]
            clear d1 d2
            by_cases exy : x0 = y0
            · have e1 : (x0 == y0) = true := beq_iff_eq.mpr exy
              refine Wn.seq (Wn.open ?_)
              refine Wn.span1 0 2 4 (by simp [base]) (by decide) (by decide) (by rw [hfz]; kernel_rfl) ?_
              simp only [List.take, List.drop]
              go_wp2_with fail
              refine ⟨rfl, ?_⟩
              refine Wn.callC 2 2 1 rfl (by simp [base]) rfl rfl rfl (by kernel_rfl) ?_
              refine try_call (e := true) (by simp [exy]) HQ.out.a ?_
              intro w1 hl1 hk1
              rw [Frame.finish_at]
              have g1 : x0 + 1 ≤ 9223372036854775807 := by have := HBD.out; have := hi.out; omega
              have g2 : -9223372036854775808 ≤ x0 + 1 := by have := HBD.out; omega
              have bw : wrap64 (x0 + 1) = x0 + 1 := by unfold wrap64; omega
              have hl1 : LkAt T a0 a1 la (x0 + 1) y0 w1 := by rw [if_pos exy, ← exy, bw] at hl1; rw [← exy]; exact hl1
              have HQ1 : Hid (FQ T a0 a1 la b0 b1 lb nb mb (x0 + 1) y0 x1 y1 x0 x1 y0 y1 u w1) := HQ.out.lockA HAP.out hl1 hk1
              clear hl1 hk1 bw z0 z1 exy
              refine Wn.span1 3 1 1 (by simp [base]) (by decide) (by decide) (by rw [hfz]; kernel_rfl) ?_
              simp only [List.take, List.drop]
              go_wp2_with fail
              refine ⟨rfl, ?_⟩
              refine Wn.range_end (n := 0) ?_
              have z0 : w1.cell? ⟨nb, 0, none⟩ = some (num x0) := (blk_cell HQ1.out.nx 0).trans rfl
              have z1 : w1.cell? ⟨mb, 0, none⟩ = some (num y0) := (blk_cell HQ1.out.nw 0).trans rfl
              have f0 : w1.frozen? ⟨nb, 0, none⟩ = false := blk_thawed HQ1.out.nx 0
              have f1 : w1.frozen? ⟨mb, 0, none⟩ = false := blk_thawed HQ1.out.nw 0
              refine Wn.seq (Wn.seq (Wn.quiet (by simp [base]) (by rw [hfz]; kernel_rfl) ?_))
              apply Exists.intro
              refine ⟨fun w hw => ?_, ?_⟩
              · have wz0 := cell_of_heap hw z0
                have wz1 := cell_of_heap hw z1
                have hw : Hid _ := hw
                go_quiet (fail)
                exact ⟨rfl, rfl, rfl, rfl⟩
              refine Wn.cond rfl ?_
              simp only [e1, bne_self_eq_false, Bool.false_eq_true, if_false]
              clear e1
              refine Wn.skip (Wn.seq (Wn.reg (by simp [base]) (by rw [hfz]; kernel_rfl) ?_))
              go_wp2_with fail
              refine ⟨rfl, ?_⟩
              refine Wn.cond rfl ?_
              simp only [if_true]
              refine Wn.reg (by simp [base]) (by rw [hfz]; kernel_rfl) ?_
              go_wp2_with fail
              refine ⟨rfl, ?_⟩
              have HQ2 : Hid (FQ T a0 a1 la b0 b1 lb nb mb (x0 + 1) y0 x1 y1 (x0 + 1) x1 y0 y1 u (w1.setCell ⟨nb, 0, none⟩ (num (x0 + 1)))) := HQ1.out.setN0 HAP.out
              clear z0 z1 f0 f1 g1 g2
              refine Wn.inBlock ?_
              refine Wn.inBlock ?_
              refine Wn.reg (by simp [base]) (by rw [hfz]; kernel_rfl) ?_
              go_wp2_with fail
              refine ⟨rfl, ?_⟩
              refine ih _ _ _ ⟨rfl, i + 1, x0 + 1, y0, x1, y1, by have := hi.out; omega, (by have := hi.out; show i + 1 ≤ xs.length; omega), (by have := HBD.out; show (_ ∧ _) ∧ (_ ∧ _) ∧ (_ ∧ _) ∧ (_ ∧ _); omega), HQ2, slots7 rfl rfl rfl rfl rfl rfl rfl rfl rfl rfl rfl rfl⟩
            · have e1 : (x0 == y0) = false := beq_eq_false_iff_ne.mpr exy
              refine Wn.seq (Wn.open ?_)
              refine Wn.span1 0 2 4 (by simp [base]) (by decide) (by decide) (by rw [hfz]; kernel_rfl) ?_
              simp only [List.take, List.drop]
              go_wp2_with fail
              refine ⟨rfl, ?_⟩
              refine Wn.callC 2 2 1 rfl (by simp [base]) rfl rfl rfl (by kernel_rfl) ?_
              refine try_call (e := false) (by simp [exy]) HQ.out.a ?_
              intro w1 hl1 hk1
              rw [Frame.finish_at]
              rw [if_neg exy] at hl1
              have HQ1 : Hid (FQ T a0 a1 la b0 b1 lb nb mb x0 y0 x1 y1 x0 x1 y0 y1 u w1) := HQ.out.lockA HAP.out hl1 hk1
              clear hl1 hk1 z0 z1 exy
              refine Wn.span1 3 1 1 (by simp [base]) (by decide) (by decide) (by rw [hfz]; kernel_rfl) ?_
              simp only [List.take, List.drop]
              go_wp2_with fail
              refine ⟨rfl, ?_⟩
              refine Wn.range_end (n := 0) ?_
              have z0 : w1.cell? ⟨nb, 0, none⟩ = some (num x0) := (blk_cell HQ1.out.nx 0).trans rfl
              have z1 : w1.cell? ⟨mb, 0, none⟩ = some (num y0) := (blk_cell HQ1.out.nw 0).trans rfl
              have f0 : w1.frozen? ⟨nb, 0, none⟩ = false := blk_thawed HQ1.out.nx 0
              have f1 : w1.frozen? ⟨mb, 0, none⟩ = false := blk_thawed HQ1.out.nw 0
              refine Wn.seq (Wn.seq (Wn.quiet (by simp [base]) (by rw [hfz]; kernel_rfl) ?_))
              apply Exists.intro
              refine ⟨fun w hw => ?_, ?_⟩
              · have wz0 := cell_of_heap hw z0
                have wz1 := cell_of_heap hw z1
                have hw : Hid _ := hw
                go_quiet (fail)
                exact ⟨rfl, rfl, rfl, rfl⟩
              refine Wn.cond rfl ?_
              simp only [e1, bne_self_eq_false, Bool.false_eq_true, if_false]
              clear e1
              refine Wn.skip (Wn.seq (Wn.reg (by simp [base]) (by rw [hfz]; kernel_rfl) ?_))
              go_wp2_with fail
              refine ⟨rfl, ?_⟩
              refine Wn.cond rfl ?_
              simp only [Bool.false_eq_true, if_false]
              clear z0 z1 f0 f1
              refine Wn.skip ?_
              refine Wn.inBlock ?_
              refine Wn.inBlock ?_
              refine Wn.reg (by simp [base]) (by rw [hfz]; kernel_rfl) ?_
              go_wp2_with fail
              refine ⟨rfl, ?_⟩
              refine ih _ _ _ ⟨rfl, i + 1, x0, y0, x1, y1, by have := hi.out; omega, (by have := hi.out; show i + 1 ≤ xs.length; omega), (by have := HBD.out; show (_ ∧ _) ∧ (_ ∧ _) ∧ (_ ∧ _) ∧ (_ ∧ _); omega), HQ1, slots7 rfl rfl rfl rfl rfl rfl rfl rfl rfl rfl rfl rfl⟩
          · have d1 : (c.op == 2) = false := beq_eq_false_iff_ne.mpr o2
            have d2 : decide (c.op = 2) = false := decide_eq_false o2
            refine Wn.seq (Wn.reg (by simp [base]) (by rw [hfz]; kernel_rfl) ?_)
            go_wp2_with fail
            refine ⟨rfl, ?_⟩
            refine Wn.cond rfl ?_
            simp only [Bool.false_eq_true, if_false]
            clear d1 d2
            refine Wn.seq (Wn.open ?_)
            refine Wn.span1 0 2 3 (by simp [base]) (by decide) (by decide) (by rw [hfz]; kernel_rfl) ?_
            simp only [List.take, List.drop]
            go_wp2_with fail
            refine ⟨rfl, ?_⟩
            refine Wn.callC 2 1 0 rfl (by simp [base]) rfl rfl rfl (by kernel_rfl) ?_
            refine unlock_call HQ.out.a ?_
            intro w1 hl1 hk1
            rw [Frame.finish_at]
            have g1 : y0 + 1 ≤ 9223372036854775807 := by have := HBD.out; have := hi.out; omega
            have g2 : -9223372036854775808 ≤ y0 + 1 := by have := HBD.out; omega
            have bw : wrap64 (y0 + 1) = y0 + 1 := by unfold wrap64; omega
            rw [bw] at hl1
            have HQ1 : Hid (FQ T a0 a1 la b0 b1 lb nb mb x0 (y0 + 1) x1 y1 x0 x1 y0 y1 u w1) := HQ.out.lockA HAP.out hl1 hk1
            clear hl1 hk1 bw z0 z1
            refine Wn.range_end (n := 0) ?_
            have z0 : w1.cell? ⟨nb, 0, none⟩ = some (num x0) := (blk_cell HQ1.out.nx 0).trans rfl
            have z1 : w1.cell? ⟨mb, 0, none⟩ = some (num y0) := (blk_cell HQ1.out.nw 0).trans rfl
            have f0 : w1.frozen? ⟨nb, 0, none⟩ = false := blk_thawed HQ1.out.nx 0
            have f1 : w1.frozen? ⟨mb, 0, none⟩ = false := blk_thawed HQ1.out.nw 0
            refine Wn.reg (by simp [base]) (by rw [hfz]; kernel_rfl) ?_
            go_wp2_with fail
            refine ⟨rfl, ?_⟩
            have HQ2 : Hid (FQ T a0 a1 la b0 b1 lb nb mb x0 (y0 + 1) x1 y1 x0 x1 (y0 + 1) y1 u (w1.setCell ⟨mb, 0, none⟩ (num (y0 + 1)))) := HQ1.out.setM0 HAP.out
            clear z0 z1 f0 f1 g1 g2
            refine Wn.inBlock ?_
            refine Wn.inBlock ?_
            refine Wn.reg (by simp [base]) (by rw [hfz]; kernel_rfl) ?_
            go_wp2_with fail
            refine ⟨rfl, ?_⟩
            refine ih _ _ _ ⟨rfl, i + 1, x0, y0 + 1, x1, y1, by have := hi.out; omega, (by have := hi.out; show i + 1 ≤ xs.length; omega), (by have := HBD.out; show (_ ∧ _) ∧ (_ ∧ _) ∧ (_ ∧ _) ∧ (_ ∧ _); omega), HQ2, slots7 rfl rfl rfl rfl rfl rfl rfl rfl rfl rfl rfl rfl⟩
      · skip
        refine Wn.seq (Wn.seq (Wn.reg (by simp [base]) (by rw [hfz]; kernel_rfl) ?_))
        go_wp2_with fail
        refine ⟨rfl, ?_⟩
        refine Wn.cond rfl ?_
        simp only [if_true]
        refine Wn.reg (by simp [base]) (by rw [hfz]; kernel_rfl) ?_
        go_wp2_with fail
        refine ⟨rfl, ?_⟩
        refine Wn.seq (Wn.reg (by simp [base]) (by rw [hfz]; kernel_rfl) ?_)
        go_wp2_with fail
        refine ⟨rfl, ?_⟩
        clear q1 d1 d2 d3 d4 q0
        refine Wn.block ?_
        have z0 : w.cell? ⟨nb, 1, none⟩ = some (num x1) := (blk_cell HQ.out.nx 1).trans rfl
        have z1 : w.cell? ⟨mb, 1, none⟩ = some (num y1) := (blk_cell HQ.out.nw 1).trans rfl
        by_cases o1 : c.op = 1
        · have d1 : (c.op == 1) = true := beq_iff_eq.mpr o1
          have d2 : decide (c.op = 1) = true := decide_eq_true o1
          refine Wn.seq (Wn.reg (by simp [base]) (by rw [hfz]; kernel_rfl) ?_)
          go_wp2_with fail
          refine ⟨rfl, ?_⟩
          refine Wn.cond rfl ?_
          simp only [if_true]
          clear d1 d2
          by_cases exy : x1 = y1
          · have e1 : (x1 != y1) = false := by rw [exy]; exact bne_self_eq_false _
            refine Wn.seq (Wn.seq (Wn.quiet (by simp [base]) (by rw [hfz]; kernel_rfl) ?_))
            apply Exists.intro
            refine ⟨fun w hw => ?_, ?_⟩
            · have wz0 := cell_of_heap hw z0
              have wz1 := cell_of_heap hw z1
              have hw : Hid _ := hw
              go_quiet (fail)
              exact ⟨rfl, rfl, rfl, rfl⟩
            refine Wn.cond rfl ?_
            simp only [e1, Bool.false_eq_true, if_false]
            clear e1
            refine Wn.skip (Wn.seq (Wn.open ?_))
            refine Wn.span1 0 2 4 (by simp [base]) (by decide) (by decide) (by rw [hfz]; kernel_rfl) ?_
            simp only [List.take, List.drop]
            go_wp2_with fail
            refine ⟨rfl, ?_⟩
            refine Wn.callC 2 2 1 rfl (by simp [base]) rfl rfl rfl (by kernel_rfl) ?_
            refine lock_call exy HQ.out.b ?_
            intro w1 hl1 hk1
            rw [Frame.finish_at]
            have g1 : x1 + 1 ≤ 9223372036854775807 := by have := HBD.out; have := hi.out; omega
            have g2 : -9223372036854775808 ≤ x1 + 1 := by have := HBD.out; omega
            have bw : wrap64 (x1 + 1) = x1 + 1 := by unfold wrap64; omega
            rw [bw] at hl1
            have HQ1 : Hid (FQ T a0 a1 la b0 b1 lb nb mb x0 y0 (x1 + 1) y1 x0 x1 y0 y1 u w1) := HQ.out.lockB HAP.out hl1 hk1
            clear hl1 hk1 bw z0 z1 exy
            refine Wn.span1 3 1 1 (by simp [base]) (by decide) (by decide) (by rw [hfz]; kernel_rfl) ?_
            simp only [List.take, List.drop]
            go_wp2_with fail
            refine ⟨rfl, ?_⟩
            refine Wn.range_end (n := 0) ?_
            refine Wn.seq (Wn.seq (Wn.reg (by simp [base]) (by rw [hfz]; kernel_rfl) ?_))
            go_wp2_with fail
            refine ⟨rfl, ?_⟩
            refine Wn.cond rfl ?_
            simp only [Bool.false_eq_true, if_false]
            have z0 : w1.cell? ⟨nb, 1, none⟩ = some (num x1) := (blk_cell HQ1.out.nx 1).trans rfl
            have z1 : w1.cell? ⟨mb, 1, none⟩ = some (num y1) := (blk_cell HQ1.out.nw 1).trans rfl
            have f0 : w1.frozen? ⟨nb, 1, none⟩ = false := blk_thawed HQ1.out.nx 1
            have f1 : w1.frozen? ⟨mb, 1, none⟩ = false := blk_thawed HQ1.out.nw 1
            refine Wn.skip (Wn.reg (by simp [base]) (by rw [hfz]; kernel_rfl) ?_)
            go_wp2_with fail
            refine ⟨rfl, ?_⟩
            have HQ2 : Hid (FQ T a0 a1 la b0 b1 lb nb mb x0 y0 (x1 + 1) y1 x0 (x1 + 1) y0 y1 u (w1.setCell ⟨nb, 1, none⟩ (num (x1 + 1)))) := HQ1.out.setN1 HAP.out
            clear z0 z1 f0 f1 g1 g2
            refine Wn.inBlock ?_
            refine Wn.inBlock ?_
            refine Wn.reg (by simp [base]) (by rw [hfz]; kernel_rfl) ?_
            go_wp2_with fail
            refine ⟨rfl, ?_⟩
            refine ih _ _ _ ⟨rfl, i + 1, x0, y0, x1 + 1, y1, by have := hi.out; omega, (by have := hi.out; show i + 1 ≤ xs.length; omega), (by have := HBD.out; show (_ ∧ _) ∧ (_ ∧ _) ∧ (_ ∧ _) ∧ (_ ∧ _); omega), HQ2, slots7 rfl rfl rfl rfl rfl rfl rfl rfl rfl rfl rfl rfl⟩
          · have e1 : (x1 != y1) = true := bne_iff_ne.mpr exy
            refine Wn.seq (Wn.seq (Wn.quiet (by simp [base]) (by rw [hfz]; kernel_rfl) ?_))
            apply Exists.intro
            refine ⟨fun w hw => ?_, ?_⟩
            · have wz0 := cell_of_heap hw z0
              have wz1 := cell_of_heap hw z1
              have hw : Hid _ := hw
              go_quiet (fail)
              exact ⟨rfl, rfl, rfl, rfl⟩
            refine Wn.cond rfl ?_
            simp only [e1, if_true]
            clear e1 z0 z1
            refine Wn.exit rfl ?_
            refine Wn.reg (by simp [base]) (by rw [hfz]; kernel_rfl) ?_
            go_wp2_with fail
            refine ⟨rfl, ?_⟩
            refine ih _ _ _ ⟨rfl, i + 1, x0, y0, x1, y1, by have := hi.out; omega, (by have := hi.out; show i + 1 ≤ xs.length; omega), (by have := HBD.out; show (_ ∧ _) ∧ (_ ∧ _) ∧ (_ ∧ _) ∧ (_ ∧ _); omega), HQ, slots7 rfl rfl rfl rfl rfl rfl rfl rfl rfl rfl rfl rfl⟩
        · have d1 : (c.op == 1) = false := beq_eq_false_iff_ne.mpr o1
          have d2 : decide (c.op = 1) = false := decide_eq_false o1
          refine Wn.seq (Wn.reg (by simp [base]) (by rw [hfz]; kernel_rfl) ?_)
          go_wp2_with fail
          refine ⟨rfl, ?_⟩
          refine Wn.cond rfl ?_
          simp only [Bool.false_eq_true, if_false]
          clear d1 d2
          by_cases o2 : c.op = 2
          · have d1 : (c.op == 2) = true := beq_iff_eq.mpr o2
            have d2 : decide (c.op = 2) = true := decide_eq_true o2
            refine Wn.seq (Wn.reg (by simp [base]) (by rw [hfz]; kernel_rfl) ?_)
            go_wp2_with fail
            refine ⟨rfl, ?_⟩
            refine Wn.cond rfl ?_
            simp only [if_true]
            clear d1 d2
            by_cases exy : x1 = y1
            · have e1 : (x1 == y1) = true := beq_iff_eq.mpr exy
              refine Wn.seq (Wn.open ?_)
              refine Wn.span1 0 2 4 (by simp [base]) (by decide) (by decide) (by rw [hfz]; kernel_rfl) ?_
              simp only [List.take, List.drop]
              go_wp2_with fail
              refine ⟨rfl, ?_⟩
              refine Wn.callC 2 2 1 rfl (by simp [base]) rfl rfl rfl (by kernel_rfl) ?_
              refine try_call (e := true) (by simp [exy]) HQ.out.b ?_
              intro w1 hl1 hk1
              rw [Frame.finish_at]
              have g1 : x1 + 1 ≤ 9223372036854775807 := by have := HBD.out; have := hi.out; omega
              have g2 : -9223372036854775808 ≤ x1 + 1 := by have := HBD.out; omega
              have bw : wrap64 (x1 + 1) = x1 + 1 := by unfold wrap64; omega
              have hl1 : LkAt T b0 b1 lb (x1 + 1) y1 w1 := by rw [if_pos exy, ← exy, bw] at hl1; rw [← exy]; exact hl1
              have HQ1 : Hid (FQ T a0 a1 la b0 b1 lb nb mb x0 y0 (x1 + 1) y1 x0 x1 y0 y1 u w1) := HQ.out.lockB HAP.out hl1 hk1
              clear hl1 hk1 bw z0 z1 exy
              refine Wn.span1 3 1 1 (by simp [base]) (by decide) (by decide) (by rw [hfz]; kernel_rfl) ?_
              simp only [List.take, List.drop]
              go_wp2_with fail
              refine ⟨rfl, ?_⟩
              refine Wn.range_end (n := 0) ?_
              have z0 : w1.cell? ⟨nb, 1, none⟩ = some (num x1) := (blk_cell HQ1.out.nx 1).trans rfl
              have z1 : w1.cell? ⟨mb, 1, none⟩ = some (num y1) := (blk_cell HQ1.out.nw 1).trans rfl
              have f0 : w1.frozen? ⟨nb, 1, none⟩ = false := blk_thawed HQ1.out.nx 1
              have f1 : w1.frozen? ⟨mb, 1, none⟩ = false := blk_thawed HQ1.out.nw 1
              refine Wn.seq (Wn.seq (Wn.quiet (by simp [base]) (by rw [hfz]; kernel_rfl) ?_))
              apply Exists.intro
              refine ⟨fun w hw => ?_, ?_⟩
              · have wz0 := cell_of_heap hw z0
                have wz1 := cell_of_heap hw z1
                have hw : Hid _ := hw
                go_quiet (fail)
                exact ⟨rfl, rfl, rfl, rfl⟩
              refine Wn.cond rfl ?_
              simp only [e1, bne_self_eq_false, Bool.false_eq_true, if_false]
              clear e1
              refine Wn.skip (Wn.seq (Wn.reg (by simp [base]) (by rw [hfz]; kernel_rfl) ?_))
              go_wp2_with fail
              refine ⟨rfl, ?_⟩
              refine Wn.cond rfl ?_
              simp only [if_true]
              refine Wn.reg (by simp [base]) (by rw [hfz]; kernel_rfl) ?_
              go_wp2_with fail
              refine ⟨rfl, ?_⟩
              have HQ2 : Hid (FQ T a0 a1 la b0 b1 lb nb mb x0 y0 (x1 + 1) y1 x0 (x1 + 1) y0 y1 u (w1.setCell ⟨nb, 1, none⟩ (num (x1 + 1)))) := HQ1.out.setN1 HAP.out
              clear z0 z1 f0 f1 g1 g2
              refine Wn.inBlock ?_
              refine Wn.inBlock ?_
              refine Wn.reg (by simp [base]) (by rw [hfz]; kernel_rfl) ?_
              go_wp2_with fail
              refine ⟨rfl, ?_⟩
              refine ih _ _ _ ⟨rfl, i + 1, x0, y0, x1 + 1, y1, by have := hi.out; omega, (by have := hi.out; show i + 1 ≤ xs.length; omega), (by have := HBD.out; show (_ ∧ _) ∧ (_ ∧ _) ∧ (_ ∧ _) ∧ (_ ∧ _); omega), HQ2, slots7 rfl rfl rfl rfl rfl rfl rfl rfl rfl rfl rfl rfl⟩
            · have e1 : (x1 == y1) = false := beq_eq_false_iff_ne.mpr exy
              refine Wn.seq (Wn.open ?_)
              refine Wn.span1 0 2 4 (by simp [base]) (by decide) (by decide) (by rw [hfz]; kernel_rfl) ?_
              simp only [List.take, List.drop]
              go_wp2_with fail
              refine ⟨rfl, ?_⟩
              refine Wn.callC 2 2 1 rfl (by simp [base]) rfl rfl rfl (by kernel_rfl) ?_
              refine try_call (e := false) (by simp [exy]) HQ.out.b ?_
              intro w1 hl1 hk1
              rw [Frame.finish_at]
              rw [if_neg exy] at hl1
              have HQ1 : Hid (FQ T a0 a1 la b0 b1 lb nb mb x0 y0 x1 y1 x0 x1 y0 y1 u w1) := HQ.out.lockB HAP.out hl1 hk1
              clear hl1 hk1 z0 z1 exy
              refine Wn.span1 3 1 1 (by simp [base]) (by decide) (by decide) (by rw [hfz]; kernel_rfl) ?_
              simp only [List.take, List.drop]
              go_wp2_with fail
              refine ⟨rfl, ?_⟩
              refine Wn.range_end (n := 0) ?_
              have z0 : w1.cell? ⟨nb, 1, none⟩ = some (num x1) := (blk_cell HQ1.out.nx 1).trans rfl
              have z1 : w1.cell? ⟨mb, 1, none⟩ = some (num y1) := (blk_cell HQ1.out.nw 1).trans rfl
              have f0 : w1.frozen? ⟨nb, 1, none⟩ = false := blk_thawed HQ1.out.nx 1
              have f1 : w1.frozen? ⟨mb, 1, none⟩ = false := blk_thawed HQ1.out.nw 1
              refine Wn.seq (Wn.seq (Wn.quiet (by simp [base]) (by rw [hfz]; kernel_rfl) ?_))
              apply Exists.intro
              refine ⟨fun w hw => ?_, ?_⟩
              · have wz0 := cell_of_heap hw z0
                have wz1 := cell_of_heap hw z1
                have hw : Hid _ := hw
                go_quiet (fail)
                exact ⟨rfl, rfl, rfl, rfl⟩
              refine Wn.cond rfl ?_
              simp only [e1, bne_self_eq_false, Bool.false_eq_true, if_false]
              clear e1
              refine Wn.skip (Wn.seq (Wn.reg (by simp [base]) (by rw [hfz]; kernel_rfl) ?_))
              go_wp2_with fail
              refine ⟨rfl, ?_⟩
              refine Wn.cond rfl ?_
              simp only [Bool.false_eq_true, if_false]
              clear z0 z1 f0 f1
              refine Wn.skip ?_
              refine Wn.inBlock ?_
              refine Wn.inBlock ?_
              refine Wn.reg (by simp [base]) (by rw [hfz]; kernel_rfl) ?_
              go_wp2_with fail
              refine ⟨rfl, ?_⟩
              refine ih _ _ _ ⟨rfl, i + 1, x0, y0, x1, y1, by have := hi.out; omega, (by have := hi.out; show i + 1 ≤ xs.length; omega), (by have := HBD.out; show (_ ∧ _) ∧ (_ ∧ _) ∧ (_ ∧ _) ∧ (_ ∧ _); omega), HQ1, slots7 rfl rfl rfl rfl rfl rfl rfl rfl rfl rfl rfl rfl⟩
          · have d1 : (c.op == 2) = false := beq_eq_false_iff_ne.mpr o2
            have d2 : decide (c.op = 2) = false := decide_eq_false o2
            refine Wn.seq (Wn.reg (by simp [base]) (by rw [hfz]; kernel_rfl) ?_)
            go_wp2_with fail
            refine ⟨rfl, ?_⟩
            refine Wn.cond rfl ?_
            simp only [Bool.false_eq_true, if_false]
            clear d1 d2
            refine Wn.seq (Wn.open ?_)
            refine Wn.span1 0 2 3 (by simp [base]) (by decide) (by decide) (by rw [hfz]; kernel_rfl) ?_
            simp only [List.take, List.drop]
            go_wp2_with fail
            refine ⟨rfl, ?_⟩
            refine Wn.callC 2 1 0 rfl (by simp [base]) rfl rfl rfl (by kernel_rfl) ?_
            refine unlock_call HQ.out.b ?_
            intro w1 hl1 hk1
            rw [Frame.finish_at]
            have g1 : y1 + 1 ≤ 9223372036854775807 := by have := HBD.out; have := hi.out; omega
            have g2 : -9223372036854775808 ≤ y1 + 1 := by have := HBD.out; omega
            have bw : wrap64 (y1 + 1) = y1 + 1 := by unfold wrap64; omega
            rw [bw] at hl1
            have HQ1 : Hid (FQ T a0 a1 la b0 b1 lb nb mb x0 y0 x1 (y1 + 1) x0 x1 y0 y1 u w1) := HQ.out.lockB HAP.out hl1 hk1
            clear hl1 hk1 bw z0 z1
            refine Wn.range_end (n := 0) ?_
            have z0 : w1.cell? ⟨nb, 1, none⟩ = some (num x1) := (blk_cell HQ1.out.nx 1).trans rfl
            have z1 : w1.cell? ⟨mb, 1, none⟩ = some (num y1) := (blk_cell HQ1.out.nw 1).trans rfl
            have f0 : w1.frozen? ⟨nb, 1, none⟩ = false := blk_thawed HQ1.out.nx 1
            have f1 : w1.frozen? ⟨mb, 1, none⟩ = false := blk_thawed HQ1.out.nw 1
            refine Wn.reg (by simp [base]) (by rw [hfz]; kernel_rfl) ?_
            go_wp2_with fail
            refine ⟨rfl, ?_⟩
            have HQ2 : Hid (FQ T a0 a1 la b0 b1 lb nb mb x0 y0 x1 (y1 + 1) x0 x1 y0 (y1 + 1) u (w1.setCell ⟨mb, 1, none⟩ (num (y1 + 1)))) := HQ1.out.setM1 HAP.out
            clear z0 z1 f0 f1 g1 g2
            refine Wn.inBlock ?_
            refine Wn.inBlock ?_
            refine Wn.reg (by simp [base]) (by rw [hfz]; kernel_rfl) ?_
            go_wp2_with fail
            refine ⟨rfl, ?_⟩
            refine ih _ _ _ ⟨rfl, i + 1, x0, y0, x1, y1 + 1, by have := hi.out; omega, (by have := hi.out; show i + 1 ≤ xs.length; omega), (by have := HBD.out; show (_ ∧ _) ∧ (_ ∧ _) ∧ (_ ∧ _) ∧ (_ ∧ _); omega), HQ2, slots7 rfl rfl rfl rfl rfl rfl rfl rfl rfl rfl rfl rfl⟩
    · have hil : i = xs.length := by have := hi.out; omega
      subst hil
      have d1 : decide ((xs.length : Int) < (xs.length : Int)) = false := decide_eq_false (by omega)
      refine Wn.seq (Wn.seq (Wn.reg (by simp [base]) (by rw [hfz]; kernel_rfl) ?_))
      go_wp2_with fail
      refine ⟨rfl, ?_⟩
      refine Wn.cond rfl ?_
      simp only [Bool.false_eq_true, if_false]
      clear d1
      refine Wn.exit rfl ?_
      refine Wn.seq (Wn.reg (by simp [base]) (by rw [hfz]; kernel_rfl) ?_)
      go_wp2_with fail
      refine ⟨rfl, ?_⟩
      refine Wn.ret ?_
      exact Wn.finish (v := .bool true) (by decide) rfl rfl Try.func7 (fun w => runT_results1 (fn := Try.f7) (t := 2) rfl _ w) rfl (fun _ => rfl) fun w hl => hpost.out w (grown_of_like HQ.out.g hl)
  · rintro a u1 C1 ⟨_, i, _, _, _, _, hf', _⟩
    omega
end Go.Proofs.Ytoabkcalphpkhaa

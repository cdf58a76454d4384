/- Merged: Plain, Start, New, Make, Make2, May. -/
import Derived.Test.YtoabkcalphpkhaaN17
/- Where nobody else is about: the context of plain code; a world of threads ahead of its run, and behind it. -/
namespace Go.Proofs.Ytoabkcalphpkhaa
open Go Go.Conc Go.RowKit
open Go.Proofs.YtoabkcalphpkhaaW.PrintWords
set_option linter.unusedVariables false
set_option linter.unusedSimpArgs false
set_option linter.unusedSectionVars false
set_option maxRecDepth 100000

/-- Nobody else is about: N goroutines have been, this one goes. -/
def ctxP (Post : Value → World → Prop) (N : Nat) (S : FuncId → Bool) (list : ListOk Try.prog true S) : Ctx Try.prog where
  Post := Post
  N := N
  h := 0
  I := fun _ => none
  Gd := fun _ => none
  fz := true
  S := S
  list := list
  thaw h := by cases h
  cover := by intro i s h; cases h

theorem Wn.relist {C : Ctx Try.prog} {fr : Frame} {cs : List Frame} {u : World} {Post : Value → World → Prop} {N : Nat} {S S' : FuncId → Bool} {l l'} (h : Wn (ctxP Post N S l) fr cs u) : Wn (ctxP Post N S' l') fr cs u :=
  Wn.reguard (C' := ctxP Post N S l) rfl rfl rfl rfl (fun _ h => h) h

/-! ### frozen cells are thawed -/
def thawO (g : Option (Nat × Nat)) (o : Obj) : Obj := match g, o with
  | some _, .cells c e _ => .cells c e (0, 0)
  | _, o => o
def thawW (G : Guard) (u : World) : World := { u with heap := u.heap.mapIdx fun b o => thawO (G b) o }
section
variable {G : Guard} {u w : World} {b : Nat}
theorem thawW_at : (thawW G u).heap[b]? = (u.heap[b]?).map (thawO (G b)) := by
  show (u.heap.mapIdx fun b o => thawO (G b) o)[b]? = _
  rw [Array.getElem?_mapIdx]
theorem thawW_free (h : G b = none) : (thawW G u).heap[b]? = u.heap[b]? := by
  rw [thawW_at, h]
  cases u.heap[b]? <;> rfl
theorem thawW_cells {c : Array Value} {e : Nat} {z : Nat × Nat} (hg : G b ≠ none) (h : u.heap[b]? = some (.cells c e z)) : (thawW G u).heap[b]? = some (.cells c e (0, 0)) := by
  rw [thawW_at, h]
  cases hb : G b with
  | none => exact absurd hb hg
  | some r => rfl
theorem thaw_like (h : Like G w u) : Like (fun _ => none) w (thawW G u) := by
  refine ⟨h.os, h.out, ?_, fun b _ => ?_, fun b r hb => by cases hb⟩
  · show (u.heap.mapIdx _).size = _
    rw [Array.size_mapIdx]; exact h.size
  · cases hb : G b with
    | none => rw [thawW_free hb]; exact h.blk b hb
    | some r =>
      obtain ⟨c, e, h1, h2⟩ := h.grd b r hb
      rw [thawW_cells (by rw [hb]; exact fun e => by cases e) h2, h1]
end

/-! ### behind all turns -/
def outOf : Park → List Ans
  | .ended out => out
  | _ => []
theorem run_ended {sched : List Int} : ∀ (n : Nat) (s : Sys) (pks : List Park) (fin : Sys × List Park), run sched n s pks = some fin → (∀ pk ∈ pks, pk.isBad = false) → fin.2.length = pks.length ∧ ∀ pk ∈ fin.2, pk = .ended (outOf pk)
  | 0, _, _, _, h, _ => by cases h
  | n + 1, s, pks, fin, h, hnb => by
    by_cases h1 : readyL s pks = []
    · cases h2 : pks.any Park.waits with
      | true => exact run_ended n _ _ _ (run_jam h h1 h2) hnb
      | false =>
        have e := run_done h h1 h2
        subst e
        refine ⟨rfl, fun pk hpk => ?_⟩
        obtain ⟨i, hi⟩ := List.mem_iff_getElem?.1 hpk
        have hlt := (List.getElem?_eq_some_iff.1 hi).1
        have hr : ¬ pk.ready s = true := fun hr => by
          have : i ∈ goList s pks pks.length := mem_goList.2 ⟨hlt, by rw [List.getD_eq_getElem?_getD, hi]; exact hr⟩
          have h1' : goList s pks pks.length = [] := h1
          rw [h1'] at this
          cases this
        have hw : pk.waits = false := by
          have := List.any_eq_false.1 h2 pk hpk
          simpa using this
        cases pk with
        | want c op f k => exact absurd rfl hr
        | wait c seen k => cases hw
        | ended out => rfl
        | bad => have := hnb _ hpk; cases this
    · obtain ⟨h3, h4⟩ := run_go h h1 rfl rfl
      have := run_ended n _ _ _ h4 (fun pk hpk => by
        rcases List.mem_or_eq_of_mem_set hpk with h5 | h5
        · exact hnb pk h5
        · rw [h5]; exact h3)
      rw [List.length_set] at this
      exact this
theorem spawn_ended {sched : List Int} {n : Nat} : ∀ (l : List Proc) (s : Sys) (pks : List Park) (fin : Sys × List Park), spawn sched n l s pks = some fin → (∀ pk ∈ pks, pk.isBad = false) → fin.2.length = pks.length + l.length ∧ ∀ pk ∈ fin.2, pk = .ended (outOf pk)
  | [], s, pks, fin, h, hnb => run_ended n s pks fin h hnb
  | p :: l, s, pks, fin, h, hnb => by
    simp only [spawn] at h
    cases hb : (adv pks.length p s).2.isBad with
    | true => rw [hb] at h; simp at h
    | false =>
      rw [hb] at h
      simp only [Bool.false_eq_true, if_false] at h
      have := spawn_ended l _ _ _ h (fun pk hpk => by
        rcases List.mem_append.1 hpk with h5 | h5
        · exact hnb pk h5
        · rw [List.mem_singleton] at h5; rw [h5]; exact hb)
      simp only [List.length_append, List.length_cons, List.length_nil] at this ⊢
      exact ⟨by omega, this.2⟩

/-! ### a world of threads, that has not run -/
structure Nums0 where
  W : Nat
  back : Nat
  cA : Nat
  cn : Nat
  cc : Nat
  sA : Option Addr
  sn : Nat
  sc : Nat
  sched : List Int
  cb : List Nat
  vals : List Int
def Nums0.own (d : Nums0) (b : Nat) : Prop := b = d.W ∨ b = d.back ∨ b = d.cA ∨ b ∈ d.cb
structure Fresh (d : Nums0) (u : World) : Prop where
  w : u.heap[d.W]? = some (.cells #[.slice d.sA d.sn d.sc, num 0, num (-1), .slice (some ⟨d.cA, 0, none⟩) d.cn d.cc, .slice none 0 0, .slice none 0 0, .bool false, .bool false, .chan (some d.back)] 80 (0, 0))
  ch : Row kI 3 u (.slice (some ⟨d.cA, 0, none⟩) d.cn d.cc) (List.replicate d.cn 0)
  back : open0 u d.back
  c : ∀ (k b : Nat), d.cb[k]? = some b → u.heap[b]? = some (.cells (cCells k (d.vals.getD k 0)) 105 (0, 0))
  clen : d.cb.length = d.cn
  vlen : d.vals.length = d.cn
  in64 : ∀ v ∈ d.vals, In64 v
  sch : Row kI 3 u (.slice d.sA d.sn d.sc) d.sched
  schO : ∀ k, (Value.slice d.sA d.sn d.sc).ownBlock = some k → k ≠ d.cA
def Nums0.start (d : Nums0) : Sys := ⟨0, -1, d.vals, List.replicate d.cn 0, [], false⟩
theorem Fresh.own_lt {d : Nums0} {u : World} (h : Fresh d u) {b : Nat} (hb : d.own b) : b < u.heap.size := by
  rcases hb with e | e | e | e
  · rw [e]; exact blk_lt h.w
  · obtain ⟨k, hk⟩ := h.back; rw [e]; exact blk_lt hk
  · obtain ⟨c, hc⟩ := own_ty h.ch (k := d.cA) rfl; rw [e]; exact blk_lt hc
  · obtain ⟨k, hk⟩ := List.mem_iff_getElem?.1 e; exact blk_lt (h.c k b hk)
theorem Fresh.grown {d : Nums0} {u u1 : World} (h : Fresh d u) (hg : Grown u u1) : Fresh d u1 := by
  have hb : ∀ {b : Nat} {o : Obj}, u.heap[b]? = some o → u1.heap[b]? = some o := fun hb => (hg.blk _ (blk_lt hb)).trans hb
  exact ⟨hb h.w, Row.move flat_kI h.ch fun k hk => hg.blk k (Kd.R_lt h.ch k hk), by obtain ⟨k, hk⟩ := h.back; exact ⟨k, hb hk⟩, fun k b hk => hb (h.c k b hk), h.clen, h.vlen, h.in64, Row.move flat_kI h.sch fun k hk => hg.blk k (Kd.R_lt h.sch k hk), h.schO⟩

/-- .. and behind its run: who answered what; the steps. -/
structure RanTo (d : Nums0) (fin : Sys × List Park) (u0 : World) (out : Nat) (u : World) : Prop where
  w : ∃ vth vtr, u.heap[d.W]? = some (.cells #[.slice d.sA d.sn d.sc, num fin.1.used, num fin.1.last, .slice (some ⟨d.cA, 0, none⟩) d.cn d.cc, vth, vtr, .bool fin.1.stuck, .bool true, .chan (some d.back)] 80 (0, 0)) ∧ Row k40 40 u vtr fin.1.trace
  o : ∃ oc : Array Value, u.heap[out]? = some (.cells oc 31 (0, 0)) ∧ oc.size = fin.2.length ∧ ∀ (j : Nat) (pk : Park), fin.2[j]? = some pk → ∃ v, oc[j]? = some v ∧ kA.R 34 u 0 (fun k => u0.heap.size ≤ k) v (outOf pk)
  keep : ∀ b o, u0.heap[b]? = some o → ¬ d.own b → u.heap[b]? = some o
  outN : u0.heap.size ≤ out
  os : u.os = u0.os
  outp : u.output = u0.output
  ended : ∀ pk ∈ fin.2, pk = .ended (outOf pk)
end Go.Proofs.Ytoabkcalphpkhaa

/- A world of threads when it begins to run. -/
namespace Go.Proofs.Ytoabkcalphpkhaa
open Go Go.Conc Go.RowKit
open Go.Proofs.YtoabkcalphpkhaaW.PrintWords
set_option linter.unusedVariables false
set_option linter.unusedSimpArgs false
set_option linter.unusedSectionVars false
set_option maxRecDepth 100000

/-- What stays while a world of threads is at work. -/
def Stays (d : Nums0) (u w : World) : Prop := ∀ b o, u.heap[b]? = some o → ¬ d.own b → w.heap[b]? = some o
/-- Scripts in memory, that stay. -/
def ScrAll (d : Nums0) (u : World) (SA : Option Addr) (scripts : List (List Cal)) : Prop :=
  ∀ (i : Nat) (l : List Cal), scripts[i]? = some l → ∃ ad A cp, SA = some ad ∧ ∀ w, Stays d u w → w.cell? (ad.add i) = some (.slice A l.length cp) ∧ Scr w A l
/-- Each body's boxes: its script, its number. -/
def BoxesOf (d : Nums0) (u u3 w : World) (scripts : List (List Cal)) (ps : List (Nat × Nat)) : Prop :=
  ∀ (j : Nat) (p : Nat × Nat), ps[j]? = some p → ∃ (A : Option Addr) (cp : Nat) (l : List Cal), scripts[j]? = some l ∧ w.heap[p.1]? = some (.cells #[.slice A l.length cp] 32 (0, 0)) ∧ w.heap[p.2]? = some (.cells #[num j] 3 (0, 0)) ∧ Hid (∀ w, Stays d u w → Scr w A l) ∧ u3.heap.size ≤ p.1 ∧ u3.heap.size ≤ p.2
theorem Stays.of_grown {d : Nums0} {u u1 w : World} (hg : Grown u u1) (h : Stays d u1 w) : Stays d u w := fun b o hb hn => h b o ((hg.blk b (blk_lt hb)).trans hb) hn
theorem Grown.stays {d : Nums0} {u u1 : World} (hg : Grown u u1) : Stays d u u1 := fun b o hb _ => (hg.blk b (blk_lt hb)).trans hb

/-! ### rows of bodies -/
abbrev kB (db ob : Nat) : Kd (Nat × Nat) := Kd.scalar (fun p => bodyV p.1 db ob p.2) (fun _ => rfl)
theorem flat_kB (db ob : Nat) : Flat (kB db ob) := flat_scalar _ _
theorem info53 : (Try.prog.info? 53).map (fun i => (i.zero, i.size, i.bytes)) = some (some .nilFunc, 1, 8) := by kernel_rfl
theorem append_body {a : Act} {ops : Array Oper} {o : Oper} {s x : Operand} {db ob : Nat} (ho : o.op = .call { callee := .builtin .append, args := #[s, x], argTypes := #[116, 116] }) (hgd : o.guard = none) {W : World} {v : Value} {acc : List (Nat × Nat)} {p : Nat × Nat} {ok : Nat → Prop} (hs : a.eval s = v) (hx : a.eval x = .slice (some ⟨W.heap.size, 0, none⟩) 1 1)
    (HO : (kB db ob).R 53 W 0 ok v acc) (hl : acc.length < 1000) {Q : Act → World → Prop}
    (h : ∀ v1 w1, (kB db ob).R 53 w1 0 (fun k => ok k ∨ W.heap.size ≤ k) v1 (acc ++ [p]) → W.grownBy w1 v.ownBlock → (v1.ownBlock = v.ownBlock ∨ ∃ b, v1.ownBlock = some b ∧ W.heap.size ≤ b) → Q (a.put o.dst v1) w1) :
    wpList Try.prog ops (Only Q) [o] a (W.alloc (.cells #[bodyV p.1 db ob p.2] 53)) := by
  refine Kd.R_append (kB db ob) (w0 := W) (base := 0) hgd s x 116 53 .nilFunc 8 ho Try.underlying116 info53 rfl (show 0 < 1 by decide) (by decide) v acc p [bodyV p.1 db ob p.2] (fun k => ok k ∨ W.heap.size ≤ k) (fun _ => False) hs hx
    rfl (fun _ h => h.elim) (fun k hk => .inr hk) (Kd.R_mono HO fun k hk => .inl hk) (Below.refl 0 W) (Nat.zero_le _) (by omega) ?_
  intro v1 w1 hR _ hg hat
  exact h v1 w1 hR hg hat
theorem bods_of_row {db ob : Nat} {u : World} {v : Value} {xs : List (Nat × Nat)} {ok : Nat → Prop} (h : (kB db ob).R 53 u 0 ok v xs) : ∃ A cp, v = .slice A xs.length cp ∧ ∀ (i : Nat) (p : Nat × Nat), xs[i]? = some p → ∃ ad, A = some ad ∧ u.cell? (ad.add i) = some (bodyV p.1 db ob p.2) := by
  obtain ⟨A', c', he, hle, hr⟩ := Kd.R_reads h
  refine ⟨A', c', he, fun i p hi => ?_⟩
  have hlt := (List.getElem?_eq_some_iff.1 hi).1
  obtain ⟨ad, e, hc⟩ := hr.2.2 (by omega)
  refine ⟨ad, e, ?_⟩
  obtain ⟨c, _, hR, hcell⟩ := hc i p hi
  have hR' : c = [bodyV p.1 db ob p.2] := hR
  have := hcell 0 (bodyV p.1 db ob p.2) (by rw [hR']; rfl)
  have e1 : i * (kB db ob).sz + 0 = i := by show i * 1 + 0 = i; omega
  rw [e1] at this
  exact this

/-! ### the rows of answers, made empty -/
theorem info31 : (Try.prog.info? 31).map (fun i => (i.zero, i.size, i.bytes)) = some (some (.slice none 0 0), 1, 24) := by kernel_rfl
theorem make31 {a : Act} {o : Oper} {x y : Operand} (ho : o.op = .makeSlice 27 x y) {n : Nat} (hn : n ≤ 64) (hx : a.eval x = num n) (hy : a.eval y = num n) (w : World) :
    (execOp a.eval o).run Try.prog w = .ok (.value (.slice (some ⟨w.heap.size, 0, none⟩) n n)) (w.alloc (.cells (madeCells (Value.slice none 0 0).cells (n * 1)) 31)) := by
  obtain ⟨i0, hi, hzz⟩ := Option.map_eq_some_iff.1 info31
  simp only [Prod.mk.injEq] at hzz
  obtain ⟨hz0, hz1, hz2⟩ := hzz
  have hr := run_make (P := Try.prog) w 27 31 i0 _ Try.underlying27 hi hz0 .i64 .i64 (n : Int) (n : Int) (by omega) (by omega) (by rw [hz2]; omega) (by omega)
  simp only [Int.toNat_natCast, hz1] at hr
  simp [execOp, ho, hx, hy, hr]
theorem Grown.two (u : World) (o1 o2 : Obj) : Grown u ((u.alloc o1).alloc o2) := (Grown.alloc u o1).trans (Grown.alloc _ o2)
/-- A block is laid anew. -/
def layW (u : World) (b : Nat) (o : Obj) : World := { u with heap := u.heap.setIfInBounds b o }
theorem layW_at {u : World} {b : Nat} {o : Obj} (h : b < u.heap.size) : (layW u b o).heap[b]? = some o := by
  show (u.heap.setIfInBounds b o)[b]? = _
  rw [Array.getElem?_setIfInBounds, if_pos rfl, if_pos h]
theorem layW_ne {u : World} {b c : Nat} {o : Obj} (h : c ≠ b) : (layW u b o).heap[c]? = u.heap[c]? := by
  show (u.heap.setIfInBounds b o)[c]? = _
  rw [Array.getElem?_setIfInBounds, if_neg (Ne.symm h)]
theorem layW_size {u : World} {b : Nat} {o : Obj} : (layW u b o).heap.size = u.heap.size := Array.size_setIfInBounds ..

section
variable {L : Lay} {Q : PQ} {u : World} {ts : List (Nat × Nat)} {tc : Nat → TC} {s : Sys} {vth vtr : Value} {oc : Array Value} {pks : List Park} {recs : Nat → Goroutine} {Cl : Nat → Nat → Option Obj} {F : Nat → Prop}
theorem Held.gd_cells (h : Held L Q ts tc s vth vtr oc pks recs Cl F u) {b t : Nat} {c : Array Value} {z : Nat × Nat} (hb : u.heap[b]? = some (.cells c t z)) (h1 : t ≠ 80) (h2 : t ≠ 92) : gd L ts b = none := by
  unfold gd
  rw [if_neg, if_neg (ne_of_ty hb h.rep.w h1)]
  intro hm
  obtain ⟨q, hq, e⟩ := List.mem_map.1 hm
  obtain ⟨k, hk⟩ := List.mem_iff_getElem?.1 hq
  exact ne_of_ty hb (h.rep.t k q hk) h2 e.symm
theorem Held.gd_sys (h : Held L Q ts tc s vth vtr oc pks recs Cl F u) {b : Nat} (hb : ¬ sysb L ts vth vtr b) : gd L ts b = none := by
  unfold gd
  rw [if_neg, if_neg (fun e => hb (.inl e))]
  intro hm
  obtain ⟨q, hq, e⟩ := List.mem_map.1 hm
  exact hb (.inr (.inr (.inr (.inr (.inr (.inl ⟨q, hq, .inl e.symm⟩))))))
end

open Classical in
/-- The world's layout when it begins to run: all else stays. -/
noncomputable def layOf (Post : Value → World → Prop) (N : Nat) (d : Nums0) (out on : Nat) (u : World) : Lay where
  Post := Post
  W := d.W
  back := d.back
  cA := d.cA
  cn := d.cn
  cc := d.cc
  N0 := N
  out := out
  on := on
  sA := d.sA
  sn := d.sn
  sc := d.sc
  sched := d.sched
  cb := d.cb
  ro := fun b => if d.own b ∨ b = out then none else u.heap[b]?
  os := u.os
  outp := u.output
open Classical in
theorem layOf_ro {Post : Value → World → Prop} {N : Nat} {d : Nums0} {out on : Nat} {u : World} {b : Nat} {o : Obj} (h : u.heap[b]? = some o) (h1 : ¬ d.own b) (h2 : b ≠ out) : (layOf Post N d out on u).ro b = some o := by
  show (if d.own b ∨ b = out then none else u.heap[b]?) = some o
  rw [if_neg (fun e => e.elim h1 h2)]; exact h
open Classical in
theorem layOf_ro' {Post : Value → World → Prop} {N : Nat} {d : Nums0} {out on : Nat} {u : World} {b : Nat} {o : Obj} (h : (layOf Post N d out on u).ro b = some o) : u.heap[b]? = some o ∧ ¬ d.own b ∧ b ≠ out := by
  change (if d.own b ∨ b = out then none else u.heap[b]?) = some o at h
  split at h
  · cases h
  · rename_i hn
    exact ⟨h, fun e => hn (.inl e), fun e => hn (.inr e)⟩
/-- The seats while nobody sits. -/
theorem seats_nil {L : Lay} {recs : Nat → Goroutine} : seats L [] [] recs none = fun _ => none := by
  funext x
  unfold seats
  split
  · rfl
  · split <;> rfl
theorem seats_ended {L : Lay} {ts : List (Nat × Nat)} {pks : List Park} {recs : Nat → Goroutine} (h : ∀ pk ∈ pks, pk.sits = false) : seats L ts pks recs none = fun _ => none := by
  funext x
  unfold seats
  split
  · rfl
  · split
    · rfl
    · cases hs : seatAt L ts pks recs (x - L.N0) with
      | none => rfl
      | some s =>
        obtain ⟨p, pk, h1, h2, h3, _⟩ := seatAt_some hs
        rw [h pk (List.mem_of_getElem? h2)] at h3
        cases h3

set_option maxHeartbeats 1000000 in
/-- The world, when it begins to run. -/
theorem start_held {Post : Value → World → Prop} {N : Nat} {d : Nums0} {out on : Nat} {u : World} {oc0 : Array Value} {Q : PQ} {recs : Nat → Goroutine} (hN : 0 < N) (hf : Fresh d u) (hout : u.heap[out]? = some (.cells oc0 31 (0, 0))) (hz : oc0.size = on) :
    MainAt (layOf Post N d out on u) Q (Is d.start []) ((layW u d.W (.cells #[.slice d.sA d.sn d.sc, num 0, num (-1), .slice (some ⟨d.cA, 0, none⟩) d.cn d.cc, .slice none 0 0, .slice none 0 0, .bool false, .bool false, .chan (some d.back)] 80 (8, 9))).setCell ⟨d.W, 7, none⟩ (.bool true)) (ctxOf (layOf Post N d out on u) [] [] recs none 0 (by simp)) := by
  have hW : ((layW u d.W (.cells #[.slice d.sA d.sn d.sc, num 0, num (-1), .slice (some ⟨d.cA, 0, none⟩) d.cn d.cc, .slice none 0 0, .slice none 0 0, .bool false, .bool false, .chan (some d.back)] 80 (8, 9))).setCell ⟨d.W, 7, none⟩ (.bool true)).heap[d.W]? = some (.cells (wCells (layOf Post N d out on u) d.start (.slice none 0 0) (.slice none 0 0)) 80 (8, 9)) := by
    rw [blk_set (layW_at (blk_lt hf.w)) 7]; rfl
  have ho : ∀ b, b ≠ d.W → ((layW u d.W (.cells #[.slice d.sA d.sn d.sc, num 0, num (-1), .slice (some ⟨d.cA, 0, none⟩) d.cn d.cc, .slice none 0 0, .slice none 0 0, .bool false, .bool false, .chan (some d.back)] 80 (8, 9))).setCell ⟨d.W, 7, none⟩ (.bool true)).heap[b]? = u.heap[b]? := fun b hb => (blk_set_ne (a := ⟨d.W, 7, none⟩) hb _).trans (layW_ne hb)
  have hos : ((layW u d.W (.cells #[.slice d.sA d.sn d.sc, num 0, num (-1), .slice (some ⟨d.cA, 0, none⟩) d.cn d.cc, .slice none 0 0, .slice none 0 0, .bool false, .bool false, .chan (some d.back)] 80 (8, 9))).setCell ⟨d.W, 7, none⟩ (.bool true)).os = u.os := rfl
  have hou : ((layW u d.W (.cells #[.slice d.sA d.sn d.sc, num 0, num (-1), .slice (some ⟨d.cA, 0, none⟩) d.cn d.cc, .slice none 0 0, .slice none 0 0, .bool false, .bool false, .chan (some d.back)] 80 (8, 9))).setCell ⟨d.W, 7, none⟩ (.bool true)).output = u.output := rfl
  generalize (layW u d.W (.cells #[.slice d.sA d.sn d.sc, num 0, num (-1), .slice (some ⟨d.cA, 0, none⟩) d.cn d.cc, .slice none 0 0, .slice none 0 0, .bool false, .bool false, .chan (some d.back)] 80 (8, 9))).setCell ⟨d.W, 7, none⟩ (.bool true) = u' at hW ho hos hou ⊢
  have hoc : ∀ {b t : Nat} {c : Array Value} {z : Nat × Nat}, u.heap[b]? = some (.cells c t z) → t ≠ 80 → u'.heap[b]? = u.heap[b]? := fun hb ht => ho _ (ne_of_ty hb hf.w ht)
  refine ⟨[], fun _ => ⟨0, 0, 0, 0⟩, d.start, .slice none 0 0, .slice none 0 0, oc0, [], recs, fun j b => if j = 0 then (layOf Post N d out on u).ro b else none, ⟨rfl, ?_, ⟨fun j b o h => ?_, fun j b o h => ?_, fun i j b o o' h1 h2 => ?_, fun b h => h.elim⟩, ?_, fun j _ b => if_neg (by omega), hN, Nat.zero_le _, fun j p pk h => (by cases h)⟩, rfl, rfl, rfl⟩
  · refine { os := hos, outp := hou, w := hW, t := fun i p h => (by cases h), c := fun k b h => (hoc (hf.c k b h) (by decide)).trans (hf.c k b h), th := Kd.R_nil _ _ _ _ _, tr := Kd.R_nil _ _ _ _ _,
             ch := Row.move flat_kI hf.ch fun k hk => (by obtain ⟨c', h'⟩ := own_ty hf.ch hk; exact hoc h' (by decide)), o := (hoc hout (by decide)).trans hout, back := ?_, goes := fun p h => (by cases h),
             nlen := List.length_replicate, vlen := hf.vlen, clen := hf.clen, olen := hz, nodup := (by simp), in64 := hf.in64, chb := fun x hx => ?_ }
    · obtain ⟨k, hk⟩ := hf.back
      exact ⟨k, (ho _ (Ne.symm (ne_of_chan hf.w hf.back))).trans hk⟩
    · have := (List.mem_replicate.1 hx).2
      subst this
      exact ⟨Int.le_refl _, Int.le_refl _⟩
  · split at h
    · obtain ⟨h1, h2, h3⟩ := layOf_ro' h
      exact (ho b fun e => h2 (.inl e)).trans h1
    · cases h
  · split at h
    · obtain ⟨h1, h2, h3⟩ := layOf_ro' h
      rintro (e | e | e | e | e | e | e | e)
      · exact h2 (.inl e)
      · exact h2 (.inr (.inl e))
      · exact h2 (.inr (.inr (.inl e)))
      · exact h3 e
      · exact h2 (.inr (.inr (.inr e)))
      · obtain ⟨p, hp, _⟩ := e; cases hp
      · cases e
      · cases e
    · cases h
  · split at h1
    · split at h2
      · omega
      · cases h2
    · cases h1
  · funext b
    exact if_pos rfl

end Go.Proofs.Ytoabkcalphpkhaa

/- turn.New; (*World).Cell; (*World).Ran; play.May; (*World).Trace: the lone machine's contracts. -/
namespace Go.Proofs.Ytoabkcalphpkhaa
open Go Go.Conc Go.RowKit
open Go.Proofs.YtoabkcalphpkhaaW.PrintWords
set_option linter.unusedVariables false
set_option linter.unusedSimpArgs false
set_option linter.unusedSectionVars false
set_option maxRecDepth 100000

theorem info3 : (Try.prog.info? 3).map (fun i => (i.zero, i.size, i.bytes)) = some (some (.int .i64 0), 1, 8) := by kernel_rfl
theorem C_move {w w' : World} {A : Option Addr} {n : Nat} {xs : List Int} (h : kI.C w A n xs) (hb : ∀ b, b < w.heap.size → w'.heap[b]? = w.heap[b]?) : kI.C w' A n xs := by
  refine ⟨h.1, h.2.1, fun hn => ?_⟩
  obtain ⟨ad, e, hc⟩ := h.2.2 hn
  refine ⟨ad, e, fun i p hi => ?_⟩
  obtain ⟨c, h1, h2, h3⟩ := hc i p hi
  refine ⟨c, h1, h2, fun j v hj => ?_⟩
  have := h3 j v hj
  rw [World.cell?_of_block (hb _ (World.block_lt_of_cell? w _ this))]
  exact this

theorem size_alloc_le {w : World} {o : Obj} {k : Nat} (h : (w.alloc o).drew.heap.size ≤ k) : w.heap.size ≤ k := by
  have h' : (w.alloc o).heap.size ≤ k := h
  rw [show (w.alloc o).heap.size = w.heap.size + 1 from Array.size_push ..] at h'
  omega
theorem size_alloc (w : World) (o : Obj) : (w.alloc o).heap.size = w.heap.size + 1 := Array.size_push ..
theorem Row_alloc {w : World} {o : Obj} {ok : Nat → Prop} {v : Value} {xs : List Int} (h : kI.R 3 w 0 ok v xs) : kI.R 3 (w.alloc o) 0 ok v xs := R_flat flat_kI h (fun k hk => heap_alloc (Kd.R_lt h k hk)) h.1
theorem new_end {w w2 : World} {xs : List Int} {sv : Value} {back W : Nat} (hg : Grown w w2) (hbN : w.heap.size ≤ back) (hb : open0 w2 back) (hR : kI.R 3 w2 0 (fun k => w.heap.size ≤ k) sv ([] ++ xs)) (hW : W = w2.heap.size) :
    ∃ W' back' sv', w.heap.size ≤ back' ∧ Ending.returned (ptr W) = .returned (ptr W') ∧ Grown w (w2.alloc (.cells #[sv, num 0, num (-1), .slice none 0 0, .slice none 0 0, .slice none 0 0, .bool false, .bool false, .chan (some back)] 80)) ∧ w.heap.size ≤ W' ∧
      (w2.alloc (.cells #[sv, num 0, num (-1), .slice none 0 0, .slice none 0 0, .slice none 0 0, .bool false, .bool false, .chan (some back)] 80)).heap[W']? = some (.cells #[sv', num 0, num (-1), .slice none 0 0, .slice none 0 0, .slice none 0 0, .bool false, .bool false, .chan (some back')] 80 (0, 0)) ∧ open0 (w2.alloc (.cells #[sv, num 0, num (-1), .slice none 0 0, .slice none 0 0, .slice none 0 0, .bool false, .bool false, .chan (some back)] 80)) back' ∧ kI.R 3 (w2.alloc (.cells #[sv, num 0, num (-1), .slice none 0 0, .slice none 0 0, .slice none 0 0, .bool false, .bool false, .chan (some back)] 80)) 0 (fun k => w.heap.size ≤ k) sv' xs := by
  subst hW
  refine ⟨_, back, sv, hbN, rfl, hg.trans (Grown.alloc _ _), hg.size, heap_alloc_new _ _, ?_, Row_alloc hR⟩
  obtain ⟨k, hk⟩ := hb
  exact ⟨k, (heap_alloc (blk_lt hk)).trans hk⟩
theorem mkchan (w : World) : (Instr.makeChan 77 (.int .i64 0)).run Try.prog w = .ok (.chan (some w.heap.size)) (w.alloc (.chan 0 #[] false 0 0 false)) := by
  obtain ⟨i0, hi, hb⟩ := Option.map_eq_some_iff.1 info99
  exact run_makeChan (P := Try.prog) (w := w) Try.underlying77 hi .i64 0 (by omega) (by rw [hb]; decide)
set_option maxHeartbeats 4000000 in
theorem new_calls (w : World) (A : Option Addr) (n cp : Nat) (xs : List Int) (hC : kI.C w A n xs) (hl : n * 8 ≤ 140737488355328) :
    Calls Try.prog 16 #[.slice A n cp] w fun e w' => ∃ W back sv, w.heap.size ≤ back ∧ e = .returned (ptr W) ∧ Grown w w' ∧ w.heap.size ≤ W ∧
      w'.heap[W]? = some (.cells #[sv, num 0, num (-1), .slice none 0 0, .slice none 0 0, .slice none 0 0, .bool false, .bool false, .chan (some back)] 80 (0, 0)) ∧ open0 w' back ∧ kI.R 3 w' 0 (fun k => w.heap.size ≤ k) sv xs := by
  have hCC : ∀ w', (∀ b, b < w.heap.size → w'.heap[b]? = w.heap[b]?) → kI.C w' A n xs := fun w' => C_move hC
  have mkc := mkchan
  go_enter Try.func16, Try.ntmps16
  go_wp2_with fail
  go_region_law (refine Kd.R_append_rows_step kI 0 rfl (.const (.slice none 0 0)) (.tmp 3) 22 3 (.int .i64 0) 8 rfl Try.underlying22 info3 rfl (by decide) (by decide) (.slice none 0 0) [] xs A n cp (fun k => w.heap.size ≤ k) (fun _ => False) rfl rfl (Kd.R_nil _ _ _ _ _) (hCC _ (by first | exact fun b hb => rfl | exact fun b hb => heap_alloc hb)) (fun _ _ h => h) (fun _ h => h.elim) (by first | exact fun k h => h | exact fun k h => size_alloc_le h) (Below.refl 0 _) (Nat.zero_le _) (by simpa using hl) ?_; intro v1 w1 ho1 hb1 hg1 hat1; obtain ⟨A1, c1, rfl⟩ := Kd.R_slice ho1)
  all_goals go_wp2_with fail
  all_goals go_ret
  · have hgw : Grown w w1 := ⟨fun b hb => hg1.block b hb (fun e => by cases e), hg1.size, hg1.os, hg1.output⟩
    exact new_end (w2 := w1.alloc (.chan 0 #[] false 0 0 false)) (hgw.trans (Grown.alloc _ _)) hgw.size ⟨0, heap_alloc_new _ _⟩ (Row_alloc ho1) (size_alloc ..).symm
  · have hgw : Grown (w.alloc (.chan 0 #[] false 0 0 false)) w1 := ⟨fun b hb => hg1.block b hb (fun e => by cases e), hg1.size, hg1.os, hg1.output⟩
    exact new_end (w2 := w1) ((Grown.alloc _ _).trans hgw) (Nat.le_refl _) ⟨0, (hgw.blk _ (by rw [size_alloc]; omega)).trans (heap_alloc_new _ _)⟩ ho1 rfl
end Go.Proofs.Ytoabkcalphpkhaa

/- Worlds and cells are made: turn.New, (*World).Cell, cell.New, latch.New, as whoever is alone does it. (Printed by gen_make.py.) -/
namespace Go.Proofs.Ytoabkcalphpkhaa
open Go Go.Conc Go.RowKit
open Go.Proofs.YtoabkcalphpkhaaW.PrintWords
set_option linter.unusedVariables false
set_option linter.unusedSimpArgs false
set_option linter.unusedSectionVars false
set_option maxRecDepth 100000

/-- A world that has not run, with its cells so far; m: its counters. -/
structure Fresh0 (W back : Nat) (sv cv : Value) (sched : List Int) (m : Nat) (cb : List Nat) (vals : List Int) (u : World) : Prop where
  w : u.heap[W]? = some (.cells #[sv, num 0, num (-1), cv, .slice none 0 0, .slice none 0 0, .bool false, .bool false, .chan (some back)] 80 (0, 0))
  ch : Row kI 3 u cv (List.replicate m 0)
  back : open0 u back
  c : ∀ (k b : Nat), cb[k]? = some b → u.heap[b]? = some (.cells (cCells k (vals.getD k 0)) 105 (0, 0))
  vlen : vals.length = cb.length
  in64 : ∀ v ∈ vals, In64 v
  sch : Row kI 3 u sv sched
  apart : ∀ k, sv.ownBlock = some k → cv.ownBlock ≠ some k
/-- All else stays. -/
structure Keep0 (W : Nat) (cv : Value) (u u' : World) : Prop where
  blk : ∀ b o, u.heap[b]? = some o → b ≠ W → cv.ownBlock ≠ some b → u'.heap[b]? = some o
  size : u.heap.size ≤ u'.heap.size
  os : u'.os = u.os
  out : u'.output = u.output

theorem own_slice {α : Type} {k : Kd α} {e : Nat} {u : World} {ok : Nat → Prop} {v : Value} {xs : List α} (h : k.R e u 0 ok v xs) (hn : 0 < xs.length) : ∃ g cap, v = .slice (some ⟨g, 0, none⟩) xs.length cap := by
  obtain ⟨hok, inner, hown, hr⟩ := h
  rcases hown.2 with ⟨rfl, h0⟩ | ⟨g, cap, cur, rfl, _⟩
  · omega
  · exact ⟨g, cap, rfl⟩
theorem slice_of {α : Type} {k : Kd α} {e : Nat} {u : World} {ok : Nat → Prop} {v : Value} {xs : List α} (h : k.R e u 0 ok v xs) : ∃ A cap, v = .slice A xs.length cap := Kd.R_slice h

theorem Fresh0.fresh {W back : Nat} {sv cv : Value} {sched : List Int} {cb : List Nat} {vals : List Int} {u : World} (h : Fresh0 W back sv cv sched cb.length cb vals u) (hn : 0 < cb.length) :
    ∃ d : Nums0, Fresh d u ∧ d.W = W ∧ d.back = back ∧ d.cb = cb ∧ d.vals = vals ∧ d.sched = sched ∧ d.cn = cb.length ∧ cv.ownBlock = some d.cA ∧ sv = .slice d.sA d.sn d.sc ∧ cv = .slice (some ⟨d.cA, 0, none⟩) d.cn d.cc := by
  obtain ⟨g, cap, ecv⟩ := own_slice h.ch (by rw [List.length_replicate]; exact hn)
  rw [List.length_replicate] at ecv
  obtain ⟨sA, sc, esv⟩ := slice_of h.sch
  subst ecv; subst esv
  refine ⟨⟨W, back, g, cb.length, cap, sA, sched.length, sc, sched, cb, vals⟩, ⟨h.w, h.ch, h.back, h.c, rfl, h.vlen, h.in64, h.sch, fun k hk e => h.apart k hk (by subst e; rfl)⟩, rfl, rfl, rfl, rfl, rfl, rfl, rfl, rfl, rfl⟩

theorem info22 : Try.prog.underlying 22 = some (.slice 3) := Try.underlying22
theorem append_int {a : Act} {ops : Array Oper} {o : Oper} {s x : Operand} (ho : o.op = .call { callee := .builtin .append, args := #[s, x], argTypes := #[22, 22] }) (hgd : o.guard = none) {W : World} {v : Value} {acc : List Int} {p : Int} {ok : Nat → Prop} (hs : a.eval s = v) (hx : a.eval x = .slice (some ⟨W.heap.size, 0, none⟩) 1 1)
    (HO : kI.R 3 W 0 ok v acc) (hl : acc.length < 10000000) {Q : Act → World → Prop}
    (h : ∀ v1 w1, kI.R 3 w1 0 (fun k => ok k ∨ W.heap.size ≤ k) v1 (acc ++ [p]) → W.grownBy w1 v.ownBlock → (v1.ownBlock = v.ownBlock ∨ ∃ b, v1.ownBlock = some b ∧ W.heap.size ≤ b) → Q (a.put o.dst v1) w1) :
    wpList Try.prog ops (Only Q) [o] a (W.alloc (.cells #[num p] 3)) := by
  refine Kd.R_append kI (w0 := W) (base := 0) hgd s x 22 3 (.int .i64 0) 8 ho Try.underlying22 info3 rfl (by decide) (by decide) v acc p [num p] (fun k => ok k ∨ W.heap.size ≤ k) (fun _ => False) hs hx
    rfl (fun _ h => h.elim) (fun k hk => .inr hk) (Kd.R_mono HO fun k hk => .inl hk) (Below.refl 0 W) (Nat.zero_le _) (by omega) ?_
  intro v1 w1 hR _ hg hat
  exact h v1 w1 hR hg hat

section
variable {C : Ctx Try.prog} {u : World} {fr : Frame} {cs : List Frame} {W back : Nat} {sv cv : Value} {sched : List Int} {m : Nat} {cb : List Nat} {vals : List Int}
/-- turn.New. -/
theorem new16 (hfz : C.fz = true) (hS : C.S = S0) {A : Option Addr} {n cp : Nat} {xs : List Int} (hC : kI.C u A n xs) (hl : n * 8 ≤ 140737488355328)
    (hn : ∀ W back sv u', Grown u u' → u.heap.size ≤ W → u.heap.size ≤ back → (∀ k, sv.ownBlock = some k → u.heap.size ≤ k) → Fresh0 W back sv (.slice none 0 0) xs 0 [] [] u' → Wn C (fr.finish (ptr W)) cs u') :
    Wn C (Frame.enter Try.prog 16 #[.slice A n cp] .normal) (fr :: cs) u := by
  refine Wn.enter (by rw [hS]; rfl) (K := fun v w' => ∃ W back sv, u.heap.size ≤ back ∧ v = ptr W ∧ Grown u w' ∧ u.heap.size ≤ W ∧ (∀ k, sv.ownBlock = some k → u.heap.size ≤ k) ∧ Fresh0 W back sv (.slice none 0 0) xs 0 [] [] w') ?_ (fun τ d => ⟨_, ?_, new_calls (u.on τ d) A n cp xs (C_move hC fun _ _ => rfl) hl⟩) ?_
  · rintro v w' τ d ⟨W, back, sv, h0, h1, h2, h3, h4, h5⟩
    exact ⟨W, back, sv, h0, h1, h2.on τ d, h3, h4, ⟨h5.w, R_flat flat_kI h5.ch (fun _ _ => rfl) h5.ch.1, h5.back, h5.c, h5.vlen, h5.in64, R_flat flat_kI h5.sch (fun _ _ => rfl) h5.sch.1, h5.apart⟩⟩
  · rintro e w' ⟨W, back, sv, h0, rfl, h2, h3, h4, h5, h6⟩
    exact ⟨W, back, sv, h0, rfl, ⟨h2.blk, h2.size, h2.os, h2.out⟩, h3, h6.1, ⟨h4, Kd.R_nil _ _ _ _ _, h5, (fun k b h => by cases h), rfl, (fun v h => by cases h), Kd.R_mono h6 fun _ _ => trivial, fun k _ e => by cases e⟩⟩
  · rintro v u' ⟨W, back, sv, h0, rfl, h2, h3, h4, h5⟩
    exact hn W back sv u' h2 h3 h0 h4 h5

/-- (*World).Cell of no world. -/
theorem cell60_nil (hfz : C.fz = true) (hn : Wn C (fr.finish (num 0)) cs u) : Wn C (Frame.enter Try.prog 60 #[.pointer none] .normal) (fr :: cs) u := by
  refine Wn.body Try.func60 rfl ?_
  simp only [Try.ntmps60, List.size_toArray, List.length_cons, List.length_nil, Nat.reduceAdd, Nat.reduceSub, Array.replicate_succ, Array.replicate_zero, List.push_toArray, List.append_toArray, List.nil_append, List.cons_append]
  refine Wn.seq (Wn.reg (by simp [base]) (by rw [hfz]; kernel_rfl) ?_)
  go_wp2_with fail
  refine ⟨rfl, ?_⟩
  refine Wn.seq (Wn.seq (Wn.reg (by simp [base]) (by rw [hfz]; kernel_rfl) ?_))
  go_wp2_with fail
  refine ⟨rfl, ?_⟩
  refine Wn.cond rfl ?_
  simp only [if_true]
  refine Wn.seq (Wn.reg (by simp [base]) (by rw [hfz]; kernel_rfl) ?_)
  go_wp2_with fail
  refine ⟨rfl, ?_⟩
  refine Wn.ret ?_
  refine Wn.back rfl rfl Try.func60 (results_tmp rfl _ _ _) ?_
  exact hn

set_option maxHeartbeats 1000000 in
/-- (*World).Cell of a world. -/
theorem cell60 (hfz : C.fz = true) (hf : Fresh0 W back sv cv sched m cb vals u) (hm : m ≤ 1000000)
    (hn : ∀ cv' u', Fresh0 W back sv cv' sched (m + 1) cb vals u' → Keep0 W cv u u' → (∀ k, cv'.ownBlock = some k → cv.ownBlock = some k ∨ u.heap.size ≤ k) → Wn C (fr.finish (num m)) cs u') :
    Wn C (Frame.enter Try.prog 60 #[ptr W] .normal) (fr :: cs) u := by
  obtain ⟨A, cp, ecv⟩ := slice_of hf.ch
  rw [List.length_replicate] at ecv
  subst ecv
  have w3 : u.cell? ⟨W, 3, none⟩ = some (.slice A m cp) := (blk_cell hf.w 3).trans rfl
  refine Wn.body Try.func60 rfl ?_
  simp only [Try.ntmps60, List.size_toArray, List.length_cons, List.length_nil, Nat.reduceAdd, Nat.reduceSub, Array.replicate_succ, Array.replicate_zero, List.push_toArray, List.append_toArray, List.nil_append, List.cons_append]
  refine Wn.seq (Wn.reg (by simp [base]) (by rw [hfz]; kernel_rfl) ?_)
  go_wp2_with fail
  refine ⟨rfl, ?_⟩
  refine Wn.seq (Wn.seq (Wn.reg (by simp [base]) (by rw [hfz]; kernel_rfl) ?_))
  go_wp2_with fail
  refine ⟨rfl, ?_⟩
  refine Wn.cond rfl ?_
  simp only [Bool.false_eq_true, if_false]
  refine Wn.skip (Wn.seq (Wn.open ?_))
  refine Wn.span1 0 6 10 (by simp [base]) (by decide) (by decide) (by rw [hfz]; kernel_rfl) ?_
  simp only [List.take, List.drop]
  go_wp2_with fail
  refine ⟨rfl, ?_⟩
  clear w3
  refine Wn.opT 6 4 3 rfl (by simp [base]) rfl (by rw [hfz]; rfl) fun τ d => ?_
  refine append_int (W := u.on τ d) (p := 0) (s := .tmp 9) (x := .tmp 10) (v := .slice A m cp) (acc := List.replicate m 0) (ok := fun k => (Value.slice A m cp).ownBlock = some k) rfl rfl rfl rfl (R_flat flat_kI hf.ch (fun _ _ => rfl) (fun _ h => h)) (by rw [List.length_replicate]; omega) ?_
  intro v1 w1 hRw hgw hat
  rw [← List.replicate_succ'] at hRw
  obtain ⟨A1, c1, e1⟩ := slice_of hRw
  rw [List.length_replicate] at e1
  subst e1
  have hown : ∀ {k}, (Value.slice A m cp).ownBlock = some k → k < u.heap.size ∧ k ≠ W := fun hk => ⟨Kd.R_lt hf.ch _ hk, own_ne hf.ch hf.w (by decide) hk⟩
  have hWw : w1.heap[W]? = _ := (hgw.block W (blk_lt hf.w) fun e => (hown e.symm).2 rfl).trans hf.w
  have w3 : w1.cell? ⟨W, 3, none⟩ = some (.slice A m cp) := (blk_cell hWw 3).trans rfl
  have z3 : w1.frozen? ⟨W, 3, none⟩ = false := (blk_frozen hWw 3).trans rfl
  have HF : Hid _ := hf
  have HR : Hid _ := hRw
  have HG : Hid _ := hgw
  clear hf hRw hgw hat
  refine Wn.span1 7 3 3 (by simp [base]) (by decide) (by decide) (by rw [hfz]; kernel_rfl) ?_
  simp only [List.take, List.drop]
  go_wp2_with fail
  refine ⟨rfl, ?_⟩
  clear w3 z3
  have hf := HF.out
  have hRw := HR.out
  have hgw := HG.out
  have hWW : (w1.setCell ⟨W, 3, none⟩ (.slice A1 (m + 1) c1)).heap[W]? = some (.cells #[sv, num 0, num (-1), .slice A1 (m + 1) c1, .slice none 0 0, .slice none 0 0, .bool false, .bool false, .chan (some back)] 80 (0, 0)) := blk_set hWw 3 _
  have hold : ∀ b o, u.heap[b]? = some o → b ≠ W → (Value.slice A m cp).ownBlock ≠ some b → (w1.setCell ⟨W, 3, none⟩ (.slice A1 (m + 1) c1)).heap[b]? = some o := fun b o h1 h2 h3 => (blk_set_ne (a := ⟨W, 3, none⟩) h2 _).trans ((hgw.block b (blk_lt h1) fun e => h3 e.symm).trans h1)
  have hcells : ∀ {b t : Nat} {c : Array Value} {z : Nat × Nat}, u.heap[b]? = some (.cells c t z) → t ≠ 80 → t ≠ 3 → (w1.setCell ⟨W, 3, none⟩ (.slice A1 (m + 1) c1)).heap[b]? = some (.cells c t z) := fun h1 h2 h3 => hold _ _ h1 (ne_of_ty h1 hf.w h2) fun e => own_ne hf.ch h1 (Ne.symm h3) e rfl
  have hnew : ∀ k, (Value.slice A1 (m + 1) c1).ownBlock = some k → (Value.slice A m cp).ownBlock = some k ∨ u.heap.size ≤ k := hRw.1
  have hf2 : Fresh0 W back sv (.slice A1 (m + 1) c1) sched (m + 1) cb vals (w1.setCell ⟨W, 3, none⟩ (.slice A1 (m + 1) c1)) := by
    refine ⟨hWW, R_flat flat_kI hRw (fun k hk => blk_set_ne (a := ⟨W, 3, none⟩) (fun e => ?_) _) (fun _ _ => trivial), ?_, fun k b h => hcells (hf.c k b h) (by decide) (by decide), hf.vlen, hf.in64, Row.move flat_kI hf.sch fun k hk => ?_, fun k hk e => ?_⟩
    · have e : k = W := e
      rcases hnew k hk with h1 | h1
      · exact (hown h1).2 e
      · have := blk_lt hf.w; omega
    · obtain ⟨k, hk⟩ := hf.back
      exact ⟨k, hold _ _ hk (Ne.symm (ne_of_chan hf.w hf.back)) fun e => own_chan hf.ch hf.back e rfl⟩
    · obtain ⟨c, hc⟩ := own_ty hf.sch hk
      rw [hold k _ hc (ne_of_ty hc hf.w (by decide)) (hf.apart k hk), hc]
    · rcases hnew k e with h1 | h1
      · exact hf.apart k hk h1
      · have := Kd.R_lt hf.sch k hk; omega
  have hk2 : Keep0 W (.slice A m cp) u (w1.setCell ⟨W, 3, none⟩ (.slice A1 (m + 1) c1)) := ⟨hold, by rw [size_set]; exact hgw.size, hgw.os, hgw.output⟩
  have w3 : (w1.setCell ⟨W, 3, none⟩ (.slice A1 (m + 1) c1)).cell? ⟨W, 3, none⟩ = some (.slice A1 (m + 1) c1) := (blk_cell hWW 3).trans rfl
  generalize w1.setCell ⟨W, 3, none⟩ (.slice A1 (m + 1) c1) = u2 at hf2 hk2 w3 ⊢
  have HN := hn _ u2 hf2 hk2 hnew
  clear hf HF hRw HR hgw HG hold hcells hf2 hk2 hnew hWW hWw hown hn
  refine Wn.range_end (n := 0) ?_
  refine Wn.seq (Wn.reg (by simp [base]) (by rw [hfz]; kernel_rfl) ?_)
  go_wp2_with fail
  refine ⟨rfl, ?_⟩
  refine Wn.ret ?_
  refine Wn.back rfl rfl Try.func60 (results_tmp rfl _ _ _) ?_
  have e : wrap64 ((m : Int) + 1 - 1) = m := by unfold wrap64; omega
  first
    | exact HN
    | (show Wn C (fr.finish (num _)) cs u2; simpa using HN)
end
end Go.Proofs.Ytoabkcalphpkhaa

/- cell.New, latch.New, (*World).Ran. (Printed by gen_make2.py.) -/
namespace Go.Proofs.Ytoabkcalphpkhaa
open Go Go.Conc Go.RowKit
open Go.Proofs.YtoabkcalphpkhaaW.PrintWords
set_option linter.unusedVariables false
set_option linter.unusedSimpArgs false
set_option linter.unusedSectionVars false
set_option maxRecDepth 100000

section
variable {C : Ctx Try.prog} {u : World} {fr : Frame} {cs : List Frame} {W back : Nat} {sv cv : Value} {sched : List Int} {m : Nat} {cb : List Nat} {vals : List Int}
theorem Keep0.trans {u u1 u2 : World} {cv' : Value} (h : Keep0 W cv u u1) (h' : Keep0 W cv' u1 u2) (hc : ∀ k, cv'.ownBlock = some k → cv.ownBlock = some k ∨ u.heap.size ≤ k) : Keep0 W cv u u2 :=
  ⟨fun b o h1 h2 h3 => h'.blk b o (h.blk b o h1 h2 h3) h2 fun e => (hc b e).elim h3 fun h4 => by have := blk_lt h1; omega, Nat.le_trans h.size h'.size, h'.os.trans h.os, h'.out.trans h.out⟩
theorem Keep0.of_grown {u u1 : World} (h : Grown u u1) : Keep0 W cv u u1 := ⟨fun b o h1 _ _ => (h.blk b (blk_lt h1)).trans h1, h.size, h.os, h.out⟩
theorem Fresh0.grown {u1 : World} (h : Fresh0 W back sv cv sched m cb vals u) (hg : Grown u u1) : Fresh0 W back sv cv sched m cb vals u1 := by
  have hb : ∀ {b : Nat} {o : Obj}, u.heap[b]? = some o → u1.heap[b]? = some o := fun hb => (hg.blk _ (blk_lt hb)).trans hb
  exact ⟨hb h.w, Row.move flat_kI h.ch fun k hk => hg.blk k (Kd.R_lt h.ch k hk), by obtain ⟨k, hk⟩ := h.back; exact ⟨k, hb hk⟩, fun k b hk => hb (h.c k b hk), h.vlen, h.in64, Row.move flat_kI h.sch fun k hk => hg.blk k (Kd.R_lt h.sch k hk), h.apart⟩
/-- A cell more, that is laid. -/
theorem Fresh0.more {b : Nat} {v : Int} (h : Fresh0 W back sv cv sched m cb vals u) (hb : u.heap.size ≤ b) (hv : In64 v) {u1 : World} (hold : ∀ c, c ≠ b → c < u.heap.size → u1.heap[c]? = u.heap[c]?) (hbb : u1.heap[b]? = some (.cells (cCells cb.length v) 105 (0, 0))) : Fresh0 W back sv cv sched m (cb ++ [b]) (vals ++ [v]) u1 := by
  have hk : ∀ {c : Nat} {o : Obj}, u.heap[c]? = some o → u1.heap[c]? = some o := fun hc => (hold _ (by have := blk_lt hc; omega) (blk_lt hc)).trans hc
  refine ⟨hk h.w, Row.move flat_kI h.ch fun k hk' => hold k (by have := Kd.R_lt h.ch k hk'; omega) (Kd.R_lt h.ch k hk'), by obtain ⟨k, hk'⟩ := h.back; exact ⟨k, hk hk'⟩, fun k c hc => ?_, by simp [h.vlen], fun x hx => ?_, Row.move flat_kI h.sch fun k hk' => hold k (by have := Kd.R_lt h.sch k hk'; omega) (Kd.R_lt h.sch k hk'), h.apart⟩
  · rcases getElem?_snoc_some hc with ⟨h1, h2⟩ | ⟨rfl, rfl⟩
    · have := hk (h.c k c h2)
      rw [this, List.getD_eq_getElem?_getD, List.getD_eq_getElem?_getD, List.getElem?_append_left (by rw [h.vlen]; exact h1)]
    · rw [hbb, ← h.vlen]
      simp [List.getD_eq_getElem?_getD]
  · rcases List.mem_append.1 hx with h1 | h1
    · exact h.in64 x h1
    · rw [List.mem_singleton] at h1; rw [h1]; exact hv

set_option maxHeartbeats 1000000 in
theorem cellNew37_nil (hfz : C.fz = true) {v : Int} (hn : ∀ b u', u'.heap[b]? = some (.cells (cCells 0 v) 105 (0, 0)) → Grown u u' → u.heap.size ≤ b → Wn C (fr.finish (ptr b)) cs u') :
    Wn C (Frame.enter Try.prog 37 #[.pointer none, num v] .normal) (fr :: cs) u := by
  refine Wn.body Try.func37 rfl ?_
  simp only [Try.ntmps37, List.size_toArray, List.length_cons, List.length_nil, Nat.reduceAdd, Nat.reduceSub, Array.replicate_succ, Array.replicate_zero, List.push_toArray, List.append_toArray, List.nil_append, List.cons_append]
  refine Wn.seq (Wn.reg (by simp [base]) (by rw [hfz]; kernel_rfl) ?_)
  go_wp2_with fail
  refine ⟨rfl, ?_⟩
  refine Wn.seq (Wn.open ?_)
  refine Wn.span1 0 1 5 (by simp [base]) (by decide) (by decide) (by rw [hfz]; kernel_rfl) ?_
  simp only [List.take, List.drop]
  go_wp2_with fail
  refine ⟨rfl, ?_⟩
  refine Wn.callC 1 4 3 rfl (by simp [base]) rfl rfl rfl (by kernel_rfl) ?_
  refine cell60_nil hfz ?_
  rw [Frame.finish_at]
  refine Wn.span1 2 3 3 (by simp [base]) (by decide) (by decide) (by rw [hfz]; kernel_rfl) ?_
  simp only [List.take, List.drop]
  go_wp2_with fail
  refine ⟨rfl, ?_⟩
  have hg := Grown.alloc u (.cells #[num 0, num 0] 105)
  have hb : (u.alloc (.cells #[num 0, num 0] 105)).heap[u.heap.size]? = some (.cells (cCells 0 0) 105 (0, 0)) := heap_alloc_new _ _
  generalize u.alloc (.cells #[num 0, num 0] 105) = u1 at hg hb ⊢
  have hbN : Hid (u.heap.size ≤ u.heap.size) := Nat.le_refl _
  generalize hbe : u.heap.size = b at hb ⊢
  have hbe : Hid (u.heap.size = b) := hbe
  refine Wn.range_end (n := 0) ?_
  refine Wn.seq (Wn.open ?_)
  refine Wn.span1 0 4 5 (by simp [base]) (by decide) (by decide) (by rw [hfz]; kernel_rfl) ?_
  simp only [List.take, List.drop]
  go_wp2_with fail
  refine ⟨rfl, ?_⟩
  refine Wn.callC 4 1 0 rfl (by simp [base]) rfl rfl rfl (by kernel_rfl) ?_
  refine astore61 hfz hb ?_
  rw [Frame.finish_at]
  refine Wn.range_end ?_
  have hb2 : (u1.setCell ⟨b, 1, none⟩ (num v)).heap[b]? = some (.cells (cCells 0 v) 105 (0, 0)) := blk_set hb 1 _
  have hg2 : Grown u (u1.setCell ⟨b, 1, none⟩ (num v)) := ⟨fun c hc => (blk_set_ne (a := ⟨b, 1, none⟩) (by have := hbe.out; show c ≠ b; omega) _).trans (hg.blk c hc), by rw [size_set]; exact hg.size, hg.os, hg.out⟩
  generalize u1.setCell ⟨b, 1, none⟩ (num v) = u2 at hb2 hg2 ⊢
  have HN := hn b u2 hb2 hg2 (Nat.le_of_eq hbe.out)
  clear hn hb hg hb2 hg2
  refine Wn.seq (Wn.reg (by simp [base]) (by rw [hfz]; kernel_rfl) ?_)
  go_wp2_with fail
  refine ⟨rfl, ?_⟩
  refine Wn.ret ?_
  refine Wn.back rfl rfl Try.func37 (results_tmp rfl _ _ _) ?_
  exact HN

set_option maxHeartbeats 1000000 in
theorem cellNew37 (hfz : C.fz = true) (hf : Fresh0 W back sv cv sched cb.length cb vals u) (hm : cb.length ≤ 1000000) {v : Int} (hv : In64 v)
    (hn : ∀ b cv' u', Fresh0 W back sv cv' sched (cb.length + 1) (cb ++ [b]) (vals ++ [v]) u' → Keep0 W cv u u' → (∀ k, cv'.ownBlock = some k → cv.ownBlock = some k ∨ u.heap.size ≤ k) → u.heap.size ≤ b → Wn C (fr.finish (ptr b)) cs u') :
    Wn C (Frame.enter Try.prog 37 #[ptr W, num v] .normal) (fr :: cs) u := by
  refine Wn.body Try.func37 rfl ?_
  simp only [Try.ntmps37, List.size_toArray, List.length_cons, List.length_nil, Nat.reduceAdd, Nat.reduceSub, Array.replicate_succ, Array.replicate_zero, List.push_toArray, List.append_toArray, List.nil_append, List.cons_append]
  refine Wn.seq (Wn.reg (by simp [base]) (by rw [hfz]; kernel_rfl) ?_)
  go_wp2_with fail
  refine ⟨rfl, ?_⟩
  refine Wn.seq (Wn.open ?_)
  refine Wn.span1 0 1 5 (by simp [base]) (by decide) (by decide) (by rw [hfz]; kernel_rfl) ?_
  simp only [List.take, List.drop]
  go_wp2_with fail
  refine ⟨rfl, ?_⟩
  refine Wn.callC 1 4 3 rfl (by simp [base]) rfl rfl rfl (by kernel_rfl) ?_
  refine cell60 hfz hf hm ?_
  intro cv' u0 hf0 hk0 hown
  have hsz : Hid (u.heap.size ≤ u0.heap.size) := hk0.size
  have HF : Hid _ := hf0
  have HK : Hid _ := hk0
  have HO : Hid _ := hown
  have HN : Hid _ := hn
  clear hf hf0 hk0 hown hn
  rw [Frame.finish_at]
  refine Wn.span1 2 3 3 (by simp [base]) (by decide) (by decide) (by rw [hfz]; kernel_rfl) ?_
  simp only [List.take, List.drop]
  go_wp2_with fail
  refine ⟨rfl, ?_⟩
  have hg := Grown.alloc u0 (.cells #[num cb.length, num 0] 105)
  have hb : (u0.alloc (.cells #[num cb.length, num 0] 105)).heap[u0.heap.size]? = some (.cells (cCells cb.length 0) 105 (0, 0)) := heap_alloc_new _ _
  generalize u0.alloc (.cells #[num cb.length, num 0] 105) = u1 at hg hb ⊢
  obtain ⟨b, hbe⟩ : ∃ b, Hid (b = u0.heap.size) := ⟨_, rfl⟩
  rw [← hbe.out] at hb ⊢
  refine Wn.range_end (n := 0) ?_
  refine Wn.seq (Wn.open ?_)
  refine Wn.span1 0 4 5 (by simp [base]) (by decide) (by decide) (by rw [hfz]; kernel_rfl) ?_
  simp only [List.take, List.drop]
  go_wp2_with fail
  refine ⟨rfl, ?_⟩
  refine Wn.callC 4 1 0 rfl (by simp [base]) rfl rfl rfl (by kernel_rfl) ?_
  refine astore61 hfz hb ?_
  rw [Frame.finish_at]
  refine Wn.range_end ?_
  have hb2 : (u1.setCell ⟨b, 1, none⟩ (num v)).heap[b]? = some (.cells (cCells cb.length v) 105 (0, 0)) := blk_set hb 1 _
  have hold : ∀ c, c ≠ b → c < u0.heap.size → (u1.setCell ⟨b, 1, none⟩ (num v)).heap[c]? = u0.heap[c]? := fun c h1 h2 => (blk_set_ne (a := ⟨b, 1, none⟩) h1 _).trans (hg.blk c h2)
  have hg2 : Grown u0 (u1.setCell ⟨b, 1, none⟩ (num v)) := ⟨fun c hc => hold c (by have := hbe.out; omega) hc, by rw [size_set]; exact hg.size, hg.os, hg.out⟩
  generalize u1.setCell ⟨b, 1, none⟩ (num v) = u2 at hb2 hold hg2 ⊢
  have HN := HN.out b cv' u2 (HF.out.more (Nat.le_of_eq hbe.out.symm) hv hold hb2) (HK.out.trans (Keep0.of_grown (cv := cv') hg2) HO.out) HO.out (by rw [hbe.out]; exact hsz.out)
  have HN : Hid _ := HN
  clear hb hg hb2 hg2 hold
  refine Wn.seq (Wn.reg (by simp [base]) (by rw [hfz]; kernel_rfl) ?_)
  go_wp2_with fail
  refine ⟨rfl, ?_⟩
  refine Wn.ret ?_
  refine Wn.back rfl rfl Try.func37 (results_tmp rfl _ _ _) ?_
  exact HN.out

/-- (*World).Ran. -/
theorem ran74 (hfz : C.fz = true) {t : Bool} (h7 : u.cell? ⟨W, 7, none⟩ = some (.bool t)) (hn : Wn C (fr.finish (.bool t)) cs u) : Wn C (Frame.enter Try.prog 74 #[ptr W] .normal) (fr :: cs) u := by
  refine Wn.body Try.func74 rfl ?_
  simp only [Try.ntmps74, List.size_toArray, List.length_cons, List.length_nil, Nat.reduceAdd, Nat.reduceSub, Array.replicate_succ, Array.replicate_zero, List.push_toArray, List.append_toArray, List.nil_append, List.cons_append]
  refine Wn.seq (Wn.reg (by simp [base]) (by rw [hfz]; kernel_rfl) ?_)
  go_wp2_with fail
  refine ⟨rfl, ?_⟩
  refine Wn.seq (Wn.reg (by simp [base]) (by rw [hfz]; kernel_rfl) ?_)
  go_wp2_with fail
  refine ⟨rfl, ?_⟩
  refine Wn.ret ?_
  refine Wn.back rfl rfl Try.func74 (results_tmp rfl _ _ _) ?_
  exact hn
end
end Go.Proofs.Ytoabkcalphpkhaa

/- play.May; latch.New. (Printed by gen_may.py.) -/
namespace Go.Proofs.Ytoabkcalphpkhaa
open Go Go.Conc Go.RowKit
open Go.Proofs.YtoabkcalphpkhaaW.PrintWords
set_option linter.unusedVariables false
set_option linter.unusedSimpArgs false
set_option linter.unusedSectionVars false
set_option maxRecDepth 100000

def mayOf (scripts : List (List Cal)) (ran : Bool) : Int :=
  if scripts.any (fun l => decide (64 < l.length)) then 2 else if scripts.length < 1 ∨ 8 < scripts.length ∨ ran = true then 1 else 0
/-- The lists of scripts, where they lie. -/
def Lists (u : World) (SA : Option Addr) (scripts : List (List Cal)) : Prop :=
  ∀ (i : Nat) (l : List Cal), scripts[i]? = some l → ∃ ad A cp, SA = some ad ∧ u.cell? (ad.add i) = some (.slice A l.length cp)
theorem mayOf_long {scripts : List (List Cal)} {ran : Bool} {i : Nat} {l : List Cal} (h : scripts[i]? = some l) (hl : 64 < l.length) : mayOf scripts ran = 2 := by
  unfold mayOf
  rw [if_pos (List.any_eq_true.2 ⟨l, List.mem_of_getElem? h, decide_eq_true hl⟩)]
theorem mayOf_short {scripts : List (List Cal)} {ran : Bool} (h : ∀ l ∈ scripts, l.length ≤ 64) : mayOf scripts ran = if scripts.length < 1 ∨ 8 < scripts.length ∨ ran = true then 1 else 0 := by
  unfold mayOf
  rw [if_neg]
  intro hc
  obtain ⟨l, hm, hd⟩ := List.any_eq_true.1 hc
  have := h l hm
  have := of_decide_eq_true hd
  omega

section
variable {C : Ctx Try.prog} {u : World} {fr : Frame} {cs : List Frame} {W : Nat}
set_option maxHeartbeats 2000000 in
theorem may49 (hfz : C.fz = true) {scripts : List (List Cal)} {SA : Option Addr} {scp : Nat} (hmx : scripts.length ≤ 9223372036854775806) (hs : Lists u SA scripts) {ran : Bool} (h7 : u.cell? ⟨W, 7, none⟩ = some (.bool ran)) (hn : Wn C (fr.finish (num (mayOf scripts ran))) cs u) :
    Wn C (Frame.enter Try.prog 49 #[ptr W, .slice SA scripts.length scp, .bool false] .normal) (fr :: cs) u := by
  refine Wn.body Try.func49 rfl ?_
  simp only [Try.ntmps49, List.size_toArray, List.length_cons, List.length_nil, Nat.reduceAdd, Nat.reduceSub, Array.replicate_succ, Array.replicate_zero, List.push_toArray, List.append_toArray, List.nil_append, List.cons_append]
  refine Wn.seq (Wn.reg (by simp [base]) (by rw [hfz]; kernel_rfl) ?_)
  go_wp2_with fail
  refine ⟨rfl, ?_⟩
  refine Wn.seq (Wn.seq (Wn.reg (by simp [base]) (by rw [hfz]; kernel_rfl) ?_))
  go_wp2_with fail
  refine ⟨rfl, ?_⟩
  refine Wn.block ?_
  refine Wn.loop_ind (f := scripts.length - 0 + 1) (fun f a u1 C1 => u1 = u ∧ C1 = C ∧ ∃ (i : Nat), f = scripts.length - i + 1 ∧ i ≤ scripts.length ∧ Hid (∀ j l, j < i → scripts[j]? = some l → l.length ≤ 64) ∧ ∃ x8 x12 x13 x14 x15 x16 x17 x18, a = { tmps := #[ptr W, .slice SA scripts.length scp, .bool false, undef, undef, undef, num 0, undef, x8, .slice SA scripts.length scp, num scripts.length, num i, x12, x13, x14, x15, x16, x17, x18, undef, undef, undef, undef, undef, undef, undef, undef, undef, undef, undef, undef, undef, undef, undef, undef, undef, undef, undef, undef, undef, undef, undef, undef], defers := [] }) ?_ ?_ ⟨rfl, rfl, 0, rfl, Nat.zero_le _, (show Hid _ from fun j l h => by omega), _, _, _, _, _, _, _, _, rfl⟩
  · rintro f ih a u1 C1 ⟨rfl, rfl, i, hf', hi, hsh, x8, x12, x13, x14, x15, x16, x17, x18, rfl⟩
    by_cases hend : i < scripts.length
    · have hli : scripts[i]? = some scripts[i] := List.getElem?_eq_getElem hend
      obtain ⟨ad, A, acp, rfl, q0⟩ := hs i _ hli
      have HLI : Hid _ := hli
      clear hli
      generalize scripts[i] = l at q0 HLI
      have d1 : decide ((i : Int) < (scripts.length : Int)) = true := decide_eq_true (by omega)
      refine Wn.seq (Wn.reg (by simp [base]) (by rw [hfz]; kernel_rfl) ?_)
      go_wp2_with fail
      refine ⟨rfl, ?_⟩
      refine Wn.seq (Wn.cond rfl ?_)
      simp only [if_true]
      clear d1
      have d1 : decide ((i : Int) < (scripts.length : Int)) = true := decide_eq_true (by omega)
      have d2 : decide ((0 : Int) ≤ (i : Int)) = true := decide_eq_true (by omega)
      have d3 : (i : Int) < (scripts.length : Int) := by omega
      have d4 : (0 : Int) ≤ (i : Int) := by omega
      refine Wn.skip (Wn.seq (Wn.block ?_))
      refine Wn.seq (Wn.reg (by simp [base]) (by rw [hfz]; kernel_rfl) ?_)
      go_wp2_with fail
      refine ⟨rfl, ?_⟩
      clear d1 d2 d3 d4 q0
      by_cases hlong : 64 < l.length
      · have d1 : decide ((l.length : Int) > 64) = true := decide_eq_true (by omega)
        have d2 : decide ((64 : Int) < (l.length : Int)) = true := decide_eq_true (by omega)
        refine Wn.seq (Wn.reg (by simp [base]) (by rw [hfz]; kernel_rfl) ?_)
        go_wp2_with fail
        refine ⟨rfl, ?_⟩
        refine Wn.cond rfl ?_
        simp only [if_true]
        refine Wn.seq (Wn.reg (by simp [base]) (by rw [hfz]; kernel_rfl) ?_)
        go_wp2_with fail
        refine ⟨rfl, ?_⟩
        refine Wn.ret ?_
        refine Wn.back rfl rfl Try.func49 (results_tmp rfl _ _ _) ?_
        rw [mayOf_long HLI.out hlong] at hn
        exact hn
      · have d1 : decide ((l.length : Int) > 64) = false := decide_eq_false (by omega)
        have d2 : decide ((64 : Int) < (l.length : Int)) = false := decide_eq_false (by omega)
        refine Wn.seq (Wn.reg (by simp [base]) (by rw [hfz]; kernel_rfl) ?_)
        go_wp2_with fail
        refine ⟨rfl, ?_⟩
        refine Wn.cond rfl ?_
        simp only [Bool.false_eq_true, if_false]
        refine Wn.skip (Wn.inBlock ?_)
        refine Wn.reg (by simp [base]) (by rw [hfz]; kernel_rfl) ?_
        go_wp2_with fail
        refine ⟨rfl, ?_⟩
        refine ih _ _ _ ⟨rfl, rfl, i + 1, by omega, by omega, (show Hid _ from fun j l' h1 h2 => ?_), _, _, _, _, _, _, _, _, rfl⟩
        by_cases e : j = i
        · subst e
          rw [HLI.out] at h2
          obtain rfl := Option.some.inj h2
          omega
        · exact hsh.out j l' (by omega) h2
    · have hil : i = scripts.length := by omega
      subst hil
      have hall : ∀ l ∈ scripts, l.length ≤ 64 := fun l hl => by
        obtain ⟨j, hj⟩ := List.mem_iff_getElem?.1 hl
        exact hsh.out j l (List.getElem?_eq_some_iff.1 hj).1 hj
      rw [mayOf_short hall] at hn
      have d1 : decide ((scripts.length : Int) < (scripts.length : Int)) = false := decide_eq_false (by omega)
      clear hall
      refine Wn.seq (Wn.reg (by simp [base]) (by rw [hfz]; kernel_rfl) ?_)
      go_wp2_with fail
      refine ⟨rfl, ?_⟩
      refine Wn.seq (Wn.cond rfl ?_)
      simp only [Bool.false_eq_true, if_false]
      clear d1
      refine Wn.exit rfl ?_
      by_cases h1 : scripts.length < 1
      · have d1 : decide ((scripts.length : Int) < 1) = true := decide_eq_true (by omega)
        rw [if_pos (.inl h1)] at hn
        refine Wn.seq (Wn.seq (Wn.open ?_))
        refine Wn.span1 0 21 24 (by simp [base]) (by decide) (by decide) (by rw [hfz]; kernel_rfl) ?_
        simp only [List.take, List.drop]
        go_wp2_with fail
        refine ⟨rfl, ?_⟩
        rw [List.range'_succ]
        refine Wn.unwanted rfl rfl ?_
        refine Wn.span1 22 2 2 (by simp [base]) (by decide) (by decide) (by rw [hfz]; kernel_rfl) ?_
        simp only [List.take, List.drop]
        go_wp2_with fail
        refine ⟨rfl, ?_⟩
        refine Wn.range_end (Wn.cond rfl ?_)
        simp only [if_true]
        refine Wn.seq (Wn.reg (by simp [base]) (by rw [hfz]; kernel_rfl) ?_)
        go_wp2_with fail
        refine ⟨rfl, ?_⟩
        refine Wn.ret ?_
        refine Wn.back rfl rfl Try.func49 (results_tmp rfl _ _ _) ?_
        exact hn
      · have d1 : decide ((scripts.length : Int) < 1) = false := decide_eq_false (by omega)
        by_cases h2 : 8 < scripts.length
        · have d2 : decide ((scripts.length : Int) > 8) = true := decide_eq_true (by omega)
          have d3 : decide ((8 : Int) < (scripts.length : Int)) = true := decide_eq_true (by omega)
          rw [if_pos (.inr (.inl h2))] at hn
          refine Wn.seq (Wn.seq (Wn.open ?_))
          refine Wn.span1 0 21 24 (by simp [base]) (by decide) (by decide) (by rw [hfz]; kernel_rfl) ?_
          simp only [List.take, List.drop]
          go_wp2_with fail
          refine ⟨rfl, ?_⟩
          rw [List.range'_succ]
          refine Wn.unwanted rfl rfl ?_
          refine Wn.span1 22 2 2 (by simp [base]) (by decide) (by decide) (by rw [hfz]; kernel_rfl) ?_
          simp only [List.take, List.drop]
          go_wp2_with fail
          refine ⟨rfl, ?_⟩
          refine Wn.range_end (Wn.cond rfl ?_)
          simp only [if_true]
          refine Wn.seq (Wn.reg (by simp [base]) (by rw [hfz]; kernel_rfl) ?_)
          go_wp2_with fail
          refine ⟨rfl, ?_⟩
          refine Wn.ret ?_
          refine Wn.back rfl rfl Try.func49 (results_tmp rfl _ _ _) ?_
          exact hn
        · have d2 : decide ((scripts.length : Int) > 8) = false := decide_eq_false (by omega)
          have d3 : decide ((8 : Int) < (scripts.length : Int)) = false := decide_eq_false (by omega)
          refine Wn.seq (Wn.seq (Wn.open ?_))
          refine Wn.span1 0 21 24 (by simp [base]) (by decide) (by decide) (by rw [hfz]; kernel_rfl) ?_
          simp only [List.take, List.drop]
          go_wp2_with fail
          refine ⟨rfl, ?_⟩
          refine Wn.callC 21 3 2 rfl (by simp [base]) rfl rfl rfl (by kernel_rfl) ?_
          refine ran74 hfz h7 ?_
          rw [Frame.finish_at]
          refine Wn.span1 22 2 2 (by simp [base]) (by decide) (by decide) (by rw [hfz]; kernel_rfl) ?_
          simp only [List.take, List.drop]
          go_wp2_with fail
          refine ⟨rfl, ?_⟩
          refine Wn.range_end (Wn.cond rfl ?_)
          cases ran with
          | true =>
            rw [if_pos (.inr (.inr rfl))] at hn
            simp only [if_true]
            refine Wn.seq (Wn.reg (by simp [base]) (by rw [hfz]; kernel_rfl) ?_)
            go_wp2_with fail
            refine ⟨rfl, ?_⟩
            refine Wn.ret ?_
            refine Wn.back rfl rfl Try.func49 (results_tmp rfl _ _ _) ?_
            exact hn
          | false =>
            rw [if_neg (fun h => h.elim h1 fun h => h.elim h2 fun h => by cases h)] at hn
            simp only [Bool.false_eq_true, if_false]
            refine Wn.skip (Wn.seq (Wn.reg (by simp [base]) (by rw [hfz]; kernel_rfl) ?_))
            go_wp2_with fail
            refine ⟨rfl, ?_⟩
            refine Wn.ret ?_
            refine Wn.back rfl rfl Try.func49 (results_tmp rfl _ _ _) ?_
            exact hn
  · rintro a u1 C1 ⟨_, _, i, hf', _⟩
    omega

/-- latch.New, of a world. -/
theorem latchNew20 (hfz : C.fz = true) {back : Nat} {sv cv : Value} {sched : List Int} (hf : Fresh0 W back sv cv sched 0 [] [] u) {n : Int} (h0 : 0 ≤ n) (hv : In64 n)
    (hn : ∀ b lb cv' u', Fresh0 W back sv cv' sched 1 [b] [n] u' → Keep0 W cv u u' → (∀ k, cv'.ownBlock = some k → cv.ownBlock = some k ∨ u.heap.size ≤ k) → u.heap.size ≤ b → u.heap.size ≤ lb → u'.heap[lb]? = some (.cells #[ptr b] 90 (0, 0)) → Wn C (fr.finish (ptr lb)) cs u') :
    Wn C (Frame.enter Try.prog 20 #[ptr W, num n] .normal) (fr :: cs) u := by
  have hmx : max n 0 = n := Int.max_eq_left h0
  refine Wn.body Try.func20 rfl ?_
  simp only [Try.ntmps20, List.size_toArray, List.length_cons, List.length_nil, Nat.reduceAdd, Nat.reduceSub, Array.replicate_succ, Array.replicate_zero, List.push_toArray, List.append_toArray, List.nil_append, List.cons_append]
  refine Wn.seq (Wn.reg (by simp [base]) (by rw [hfz]; kernel_rfl) ?_)
  go_wp2_with fail
  refine ⟨rfl, ?_⟩
  refine Wn.seq (Wn.open ?_)
  refine Wn.span1 0 3 7 (by simp [base]) (by decide) (by decide) (by rw [hfz]; kernel_rfl) ?_
  simp only [List.take, List.drop]
  go_wp2_with fail
  refine ⟨rfl, ?_⟩
  refine Wn.callC 3 4 3 rfl (by simp [base]) rfl rfl rfl (by kernel_rfl) ?_
  clear hmx
  refine cellNew37 (cb := []) (vals := []) hfz hf (by decide) hv ?_
  intro b cv' u1 hf1 hk1 hown hbN
  have hf1 : Fresh0 W back sv cv' sched 1 [b] [n] u1 := hf1
  rw [Frame.finish_at]
  have HF : Hid _ := hf1
  have HK : Hid _ := hk1
  have HO : Hid _ := hown
  have HN : Hid _ := hn
  have HB : Hid _ := hbN
  clear hf hf1 hk1 hown hn hbN
  refine Wn.span1 4 3 3 (by simp [base]) (by decide) (by decide) (by rw [hfz]; kernel_rfl) ?_
  simp only [List.take, List.drop]
  go_wp2_with fail
  refine ⟨rfl, ?_⟩
  have hg := Grown.alloc u1 (.cells #[ptr b] 90)
  have hb : (u1.alloc (.cells #[ptr b] 90)).heap[u1.heap.size]? = some (.cells #[ptr b] 90 (0, 0)) := heap_alloc_new _ _
  generalize u1.alloc (.cells #[ptr b] 90) = u2 at hg hb ⊢
  refine Wn.range_end (n := 0) (Wn.ret ?_)
  refine Wn.back rfl rfl Try.func20 (results_tmp rfl _ _ _) ?_
  exact HN.out b _ cv' u2 (HF.out.grown hg) (HK.out.trans (Keep0.of_grown (cv := cv') hg) HO.out) HO.out HB.out HK.out.size hb
end
end Go.Proofs.Ytoabkcalphpkhaa

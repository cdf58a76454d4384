/- Merged: Way, Wait. -/
import Derived.Test.YtoabkcalphpkhaaN01
import Derived.Test.YtoabkcalphpkhaaN08
/- The operations on the way to a seat. -/
namespace Go.Proofs.Ytoabkcalphpkhaa
open Go Go.RowKit Go.Conc
set_option linter.unusedVariables false
set_option linter.unusedSimpArgs false
section
variable {main : Bool} {b : Frame} {a : Act} {k : List Item} {cs : List Frame} {ops : Array Oper} {i : Nat} {rest : List Nat} {o : Oper} {s : Seat} {n : Nat}

theorem way_move (ho : ops[i]? = some o) (hw : Region.wanted o (yielded ops a.tmps) = true) (hke : b.kind ≠ .early) {x : Operand} (hop : o.op = .move x) (h : Way Try.prog main s n (gr (b.at (a.put o.dst (a.eval x)) (.inRegion ops rest :: k)) cs)) :
    Way Try.prog main s (n + 1) (gr (b.at a (.inRegion ops (i :: rest) :: k)) cs) := by
  have he : ∀ w, (execOp a.eval o).runT Try.prog w #[] = (.ok (.value (a.eval x)) w, #[]) := by
    intro w
    unfold execOp
    rw [hop]
    rfl
  refine Way.value ho hw hke (fun w _ => by rw [← Sem.runT_fst Try.prog _ _ #[], he w]) (fun w _ e h' => ?_) h
  have : (execOp a.eval o).events Try.prog w #[] = #[] := by have := congrArg Prod.snd (he w); simpa using this
  rw [this] at h'
  simp at h'
theorem way_nilCheck (ho : ops[i]? = some o) (hw : Region.wanted o (yielded ops a.tmps) = true) (hke : b.kind ≠ .early) {x : Operand} (hop : o.op = .nilCheck x) {ad : Addr} (hx : a.eval x = .pointer (some ad))
    (h : Way Try.prog main s n (gr (b.at (a.put o.dst (.pointer (some ad))) (.inRegion ops rest :: k)) cs)) : Way Try.prog main s (n + 1) (gr (b.at a (.inRegion ops (i :: rest) :: k)) cs) := by
  have he : ∀ w, (execOp a.eval o).runT Try.prog w #[] = (.ok (.value (.pointer (some ad))) w, #[]) := by
    intro w
    unfold execOp
    rw [hop]
    simp only [hx]
    rfl
  refine Way.value ho hw hke (fun w _ => by rw [← Sem.runT_fst Try.prog _ _ #[], he w]) (fun w _ e h' => ?_) h
  have : (execOp a.eval o).events Try.prog w #[] = #[] := by have := congrArg Prod.snd (he w); simpa using this
  rw [this] at h'
  simp at h'
theorem way_fieldAddr (ho : ops[i]? = some o) (hw : Region.wanted o (yielded ops a.tmps) = true) (hke : b.kind ≠ .early) {t : TypeId} {x : Operand} {f : Nat} (hop : o.op = .fieldAddr t x f) {ad ad' : Addr} (hx : a.eval x = .pointer (some ad))
    (hr : ∀ w, (Instr.fieldAt t (.pointer (some ad)) f).runT Try.prog w #[] = (.ok (.pointer (some ad')) w, #[]))
    (h : Way Try.prog main s n (gr (b.at (a.put o.dst (.pointer (some ad'))) (.inRegion ops rest :: k)) cs)) : Way Try.prog main s (n + 1) (gr (b.at a (.inRegion ops (i :: rest) :: k)) cs) := by
  have he : ∀ w, (execOp a.eval o).runT Try.prog w #[] = (.ok (.value (.pointer (some ad'))) w, #[]) := by
    intro w
    have h1 := hr w
    unfold execOp
    rw [hop]
    simp only [hx]
    simp [h1] at h1 ⊢
    simp [h1]
  refine Way.value ho hw hke (fun w _ => by rw [← Sem.runT_fst Try.prog _ _ #[], he w]) (fun w _ e h' => ?_) h
  have : (execOp a.eval o).events Try.prog w #[] = #[] := by have := congrArg Prod.snd (he w); simpa using this
  rw [this] at h'
  simp at h'
theorem way_load (ho : ops[i]? = some o) (hw : Region.wanted o (yielded ops a.tmps) = true) (hke : b.kind ≠ .early) {t : TypeId} {x : Operand} (hop : o.op = .load t x) {ad : Addr} {v : Value} (hx : a.eval x = .pointer (some ad)) (hm : (ad, v) ∈ s.cells)
    (hr : ∀ w, w.cell? ad = some v → (Instr.loadAt t (.pointer (some ad))).runT Try.prog w #[] = (.ok v w, #[⟨.cell ad, false, false⟩]))
    (h : Way Try.prog main s n (gr (b.at (a.put o.dst v) (.inRegion ops rest :: k)) cs)) : Way Try.prog main s (n + 1) (gr (b.at a (.inRegion ops (i :: rest) :: k)) cs) := by
  have he : ∀ w, s.reads w → (execOp a.eval o).runT Try.prog w #[] = (.ok (.value v) w, #[⟨.cell ad, false, false⟩]) := by
    intro w hs
    have h1 := hr w (hs _ hm)
    unfold execOp
    rw [hop]
    simp only [hx]
    simp [h1] at h1 ⊢
    simp [h1]
  refine Way.value ho hw hke (fun w hs => by rw [← Sem.runT_fst Try.prog _ _ #[], he w hs]) (fun w hs e h' => ?_) h
  have : (execOp a.eval o).events Try.prog w #[] = #[⟨.cell ad, false, false⟩] := by have := congrArg Prod.snd (he w hs); simpa using this
  rw [this] at h'
  simp at h'
  exact ⟨ad, h', _, hm, rfl⟩
theorem field_goes (T : Nat) (w : World) : (Instr.fieldAt 92 (.pointer (some ⟨T, 0, none⟩)) 2).runT Try.prog w #[] = (.ok (.pointer (some ⟨T, 2, none⟩)) w, #[]) := by
  simp [Instr.fieldAt, go_sem, Try.underlying92]
theorem field_back (W : Nat) (w : World) : (Instr.fieldAt 80 (.pointer (some ⟨W, 0, none⟩)) 8).runT Try.prog w #[] = (.ok (.pointer (some ⟨W, 8, none⟩)) w, #[]) := by
  simp [Instr.fieldAt, go_sem, Try.underlying80]
theorem load_chan (ad : Addr) (g : Nat) (w : World) (h : w.cell? ad = some (.chan (some g))) : (Instr.loadAt 77 (.pointer (some ad))).runT Try.prog w #[] = (.ok (.chan (some g)) w, #[⟨.cell ad, false, false⟩]) := by
  simp [Instr.loadAt, go_sem, h, Try.underlying77]

/-- On its way to a receive on channel g; what goes on there is known by Res. -/
def Heads (main : Bool) (g : Nat) (z : Value) (cells : List (Addr × Value)) (Res : Goroutine → Prop) (x : Goroutine) : Prop := ∃ r n, Res r ∧ Way Try.prog main ⟨g, z, r, cells⟩ n x
variable {g : Nat} {z : Value} {cells : List (Addr × Value)} {Res : Goroutine → Prop}
theorem Heads.ctl {fr fr' : Frame} {cs' : List Frame} (h : ∀ w, stepG Try.prog main (gr fr cs) w = .go (gr fr' cs') w) (hw : Heads main g z cells Res (gr fr' cs')) : Heads main g z cells Res (gr fr cs) := by
  obtain ⟨r, n, h1, h2⟩ := hw
  exact ⟨r, n + 1, h1, Way.ctl h h2⟩
theorem Heads.move (ho : ops[i]? = some o) (hw : Region.wanted o (yielded ops a.tmps) = true) (hke : b.kind ≠ .early) {x : Operand} (hop : o.op = .move x) (h : Heads main g z cells Res (gr (b.at (a.put o.dst (a.eval x)) (.inRegion ops rest :: k)) cs)) :
    Heads main g z cells Res (gr (b.at a (.inRegion ops (i :: rest) :: k)) cs) := by
  obtain ⟨r, n, h1, h2⟩ := h
  exact ⟨r, n + 1, h1, way_move ho hw hke hop h2⟩
theorem Heads.nilCheck (ho : ops[i]? = some o) (hw : Region.wanted o (yielded ops a.tmps) = true) (hke : b.kind ≠ .early) {x : Operand} (hop : o.op = .nilCheck x) {ad : Addr} (hx : a.eval x = .pointer (some ad))
    (h : Heads main g z cells Res (gr (b.at (a.put o.dst (.pointer (some ad))) (.inRegion ops rest :: k)) cs)) : Heads main g z cells Res (gr (b.at a (.inRegion ops (i :: rest) :: k)) cs) := by
  obtain ⟨r, n, h1, h2⟩ := h
  exact ⟨r, n + 1, h1, way_nilCheck ho hw hke hop hx h2⟩
theorem Heads.fieldAddr (ho : ops[i]? = some o) (hw : Region.wanted o (yielded ops a.tmps) = true) (hke : b.kind ≠ .early) {t : TypeId} {x : Operand} {f : Nat} (hop : o.op = .fieldAddr t x f) {ad ad' : Addr} (hx : a.eval x = .pointer (some ad))
    (hr : ∀ w, (Instr.fieldAt t (.pointer (some ad)) f).runT Try.prog w #[] = (.ok (.pointer (some ad')) w, #[]))
    (h : Heads main g z cells Res (gr (b.at (a.put o.dst (.pointer (some ad'))) (.inRegion ops rest :: k)) cs)) : Heads main g z cells Res (gr (b.at a (.inRegion ops (i :: rest) :: k)) cs) := by
  obtain ⟨r, n, h1, h2⟩ := h
  exact ⟨r, n + 1, h1, way_fieldAddr ho hw hke hop hx hr h2⟩
theorem Heads.load (ho : ops[i]? = some o) (hw : Region.wanted o (yielded ops a.tmps) = true) (hke : b.kind ≠ .early) {t : TypeId} {x : Operand} (hop : o.op = .load t x) {ad : Addr} {v : Value} (hx : a.eval x = .pointer (some ad)) (hm : (ad, v) ∈ cells)
    (hr : ∀ w, w.cell? ad = some v → (Instr.loadAt t (.pointer (some ad))).runT Try.prog w #[] = (.ok v w, #[⟨.cell ad, false, false⟩]))
    (h : Heads main g z cells Res (gr (b.at (a.put o.dst v) (.inRegion ops rest :: k)) cs)) : Heads main g z cells Res (gr (b.at a (.inRegion ops (i :: rest) :: k)) cs) := by
  obtain ⟨r, n, h1, h2⟩ := h
  exact ⟨r, n + 1, h1, way_load (s := ⟨g, z, r, cells⟩) ho hw hke hop hx hm hr h2⟩
theorem Heads.recv (ho : ops[i]? = some o) (hw : Region.wanted o (yielded ops a.tmps) = true) (hke : b.kind ≠ .early) {t : TypeId} {x : Operand} (hop : o.op = .recv t x false) {dir : ChanDir} {elem : TypeId} (ht : Try.prog.underlying t = some (.chan dir elem))
    (hz : (Try.prog.info? elem).map (·.zero) = some (some z)) (hx : a.eval x = .chan (some g)) (h : Res (gr (b.at a (.inRegion ops (i :: rest) :: k)) cs)) : Heads main g z cells Res (gr (b.at a (.inRegion ops (i :: rest) :: k)) cs) :=
  ⟨_, 0, h, Way.recv (s := ⟨g, z, _, cells⟩) ho hw hke hop ht hz hx rfl⟩
end
end Go.Proofs.Ytoabkcalphpkhaa

/- (*Thread).wait: the turn is given back. -/
namespace Go.Proofs.Ytoabkcalphpkhaa
open Go Go.RowKit Go.Conc
set_option linter.unusedVariables false
set_option linter.unusedSimpArgs false

theorem Wn.enter_body {P : Program} {C : Ctx P} {cs : List Frame} {u : World} {f : FuncId} {fn : Func} {c : Code} {args : Array Value} (hf : P.funcs[f]? = some fn) (hb : fn.body = some c)
    (h : Wn C ((base f).at { tmps := args ++ Array.replicate (fn.ntmps - args.size) undef, defers := [] } [.code c]) cs u) : Wn C (Frame.enter P f args .normal) cs u := by
  rw [enter_at args hf hb]; exact h

/-- The n-th operation of a region, m more behind it. -/
theorem Wn.nth {P : Program} {C : Ctx P} {cs : List Frame} {u : World} {b : Frame} {a : Act} {k : List Item} {ops : Array Oper} {o : Oper} (n m m' : Nat) (hm : m = m' + 1) (ho : ops[n]? = some o) (hok : opOk P C.fz C.S o.op = true) (hb : b.kind ≠ .early)
    (h : ∀ u1, Same u u1 → wpList P ops (Only fun a' u' => Wn C (b.at a' (.inRegion ops (List.range' (n + 1) m') :: k)) cs u') [o] a u1) : Wn C (b.at a (.inRegion ops (List.range' n m) :: k)) cs u := by
  subst hm
  rw [List.range'_succ]
  exact Wn.one ho hok hb (fun τ d => h _ ⟨τ, d, rfl⟩)
theorem Wn.same {P : Program} {C : Ctx P} {cs : List Frame} {fr : Frame} {u u1 : World} (hs : Same u u1) (h : Wn C fr cs u) : Wn C fr cs u1 := by
  obtain ⟨τ, d, rfl⟩ := hs; exact h.on τ d
theorem Same.cell {u u1 : World} (hs : Same u u1) (a : Addr) : u1.cell? a = u.cell? a := by unfold World.cell?; rw [hs.heap]
theorem Same.setCell {u u1 : World} (hs : Same u u1) (a : Addr) (v : Value) : Same (u.setCell a v) (u1.setCell a v) := by obtain ⟨τ, d, rfl⟩ := hs; exact ⟨τ, d, rfl⟩
theorem Same.frozen {u u1 : World} (hs : Same u u1) (a : Addr) : u1.frozen? a = u.frozen? a := by unfold World.frozen?; rw [hs.heap]

theorem open0_setCell {w : World} {g : Nat} (h : open0 w g) {a : Addr} {v : Value} : open0 (w.setCell a v) g := by
  obtain ⟨n, hn⟩ := h
  refine ⟨n, ?_⟩
  simp only [World.setCell, Array.getElem?_modify]
  split
  · rename_i e
    rw [hn]
    rfl
  · exact hn
/-- What goes on behind a thread's turn: its caller does. -/
def BackTo (c1 : Frame) (cs1 : List Frame) (r : Goroutine) : Prop := ∃ fr fs, r = gr fr fs ∧ ∀ (C' : Ctx Try.prog) u', Wn C' (c1.finish (.tuple #[])) cs1 u' → Wn C' (fr.finish (.agg #[])) fs u'

/-- The giver goes on to a seat of its own; what goes on there is known by what it does. -/
theorem Wn.give_to {C : Ctx Try.prog} {cs : List Frame} {u : World} {b : Frame} {a : Act} {k : List Item} {ops : Array Oper} {i : Nat} {rest : List Nat} {o : Oper} (Res : Goroutine → Prop) (g : Nat) (z : Value) (cells : List (Addr × Value))
    (hb : b.kind ≠ .early) (ho : ops[i]? = some o) (hw : Region.wanted o (yielded ops a.tmps) = true) (hd : o.dst = none) {x y : Operand} (hop : o.op = .send x y) {v : Value} {j : Nat} {s : Seat} (hj : C.I j = some s)
    (hx : a.eval x = .chan (some s.c)) (hy : a.eval y = v) (hGc : C.Gd s.c = none) (hrd : ∀ p ∈ cells, u.cell? p.1 = some p.2) (hch : open0 u g) (hown : ∀ i s', C.I i = some s' → s'.c ≠ g) (hcov : ∀ p ∈ cells, C.Gd.has p.1)
    {fr : Frame} {fs : List Frame} (hr : s.r = gr fr fs) (hway : Heads (C.h == 0) g z cells Res (gr (b.at a (.inRegion ops rest :: k)) cs))
    (h : ∀ r, Res r → ∀ hc kk, Wn (C.next C.N j ((C.I.set C.h (some ⟨g, z, r, cells⟩)).set j none) hc) (fr.finish v) fs (u.setChan s.c 0 #[] false kk kk false)) : Wn C (b.at a (.inRegion ops (i :: rest) :: k)) cs u := by
  obtain ⟨r, n, hres, hw'⟩ := hway
  exact Wn.give (s' := ⟨g, z, r, cells⟩) hb ho hw hd hop hj hx hy hGc ⟨hrd, hch, hown⟩ hw' hcov hr (h r hres)

set_option maxRecDepth 100000 in
theorem wait_sends {C : Ctx Try.prog} {cs : List Frame} {u : World} (hfz : C.fz = true) (h108 : C.S 108 = true) {T W back : Nat} {st op c : Int} {st0 op0 c0 sn0 : Value} (A : Option Addr) (n cp : Nat) (xs : List Int) (hmax : n ≤ 9223372036854775807)
    (hT0 : u.cell? ⟨T, 0, none⟩ = some (.pointer (some ⟨W, 0, none⟩))) (hW3 : u.cell? ⟨W, 3, none⟩ = some (.slice A n cp)) (hr : Nums u A n xs)
    (hT3 : u.cell? ⟨T, 3, none⟩ = some st0) (hT4 : u.cell? ⟨T, 4, none⟩ = some c0) (hT5 : u.cell? ⟨T, 5, none⟩ = some op0) (hT6 : u.cell? ⟨T, 6, none⟩ = some sn0) (hz : ∀ i, 3 ≤ i → u.frozen? ⟨T, i, none⟩ = false)
    (hWT : W ≠ T) (hW8 : u.cell? ⟨W, 8, none⟩ = some (.chan (some back)))
    {g : Nat} {s0 : Seat} {fr0 : Frame} {fs0 : List Frame} (hT2 : u.cell? ⟨T, 2, none⟩ = some (.chan (some g))) (hj : C.I 0 = some s0) (hback : s0.c = back) (hGb : C.Gd back = none) (hr0 : s0.r = gr fr0 fs0)
    {c1 : Frame} {cs1 : List Frame} (hcs : cs = c1 :: cs1) (hown : ∀ i s', C.I i = some s' → s'.c ≠ g) (hcov : C.Gd.has ⟨T, 2, none⟩) (z0 : (Try.prog.info? 99).map (·.zero) = some (some (.agg #[]))) (hop : open0 u g)
    (hnext : ∀ r, BackTo c1 cs1 r → ∀ hc kk, Wn (C.next C.N 0 ((C.I.set C.h (some ⟨g, .agg #[], r, [(⟨T, 2, none⟩, .chan (some g))]⟩)).set 0 none) hc) (fr0.finish (.agg #[])) fs0
      (((((u.setCell ⟨T, 3, none⟩ (.int .i64 st)).setCell ⟨T, 5, none⟩ (.int .i64 op)).setCell ⟨T, 4, none⟩ (.int .i64 c)).setCell ⟨T, 6, none⟩ (.int .i64 (changedOf xs c))).setChan s0.c 0 #[] false kk kk false)) :
    Wn C (Frame.enter Try.prog 83 #[.pointer (some ⟨T, 0, none⟩), .int .i64 st, .int .i64 op, .int .i64 c] .normal) cs u := by
  refine Wn.enter_body Try.func83 rfl ?_
  simp only [Try.ntmps83, List.size_toArray, List.length_cons, List.length_nil, Nat.reduceAdd, Nat.reduceSub, Array.replicate_succ, Array.replicate_zero, List.push_toArray, List.append_toArray, List.nil_append, List.cons_append]
  refine Wn.seq ?_
  refine Wn.region_pre (by simp [base]) 12 (by decide) (by rw [hfz]; kernel_rfl) (fun u1 hs => ?_)
  have hT0' : u1.cell? ⟨T, 0, none⟩ = some (.pointer (some ⟨W, 0, none⟩)) := by unfold World.cell? at hT0 ⊢; rw [hs.heap]; exact hT0
  simp only [List.take]
  go_wp2_with fail
  refine ⟨rfl, Wn.same hs ?_⟩
  clear hs hT0' u1
  refine Wn.nth 12 _ 12 rfl rfl (by rw [hfz]; simp [opOk, h108]) (by simp [base]) (fun u1 hs => ?_)
  go_wp2_with fail
  refine (changed_calls u1 W A n cp xs c hmax ((hs.cell _).trans hW3) ⟨hr.1, fun i hi => by obtain ⟨ad, e, hx⟩ := hr.2 i hi; exact ⟨ad, e, (hs.cell _).trans hx⟩⟩).mono ?_
  rintro e w' ⟨rfl, rfl⟩
  go_wp2_with fail
  refine Wn.same hs ?_
  clear hs
  -- the stores
  refine Wn.span (by simp [base]) 13 12 12 (by decide) (by decide) (by rw [hfz]; kernel_rfl) (fun u1 hs => ?_)
  simp only [List.take, List.drop]
  have t3 : u1.cell? ⟨T, 3, none⟩ = some st0 := (hs.cell _).trans hT3
  have t4 : u1.cell? ⟨T, 4, none⟩ = some c0 := (hs.cell _).trans hT4
  have t5 : u1.cell? ⟨T, 5, none⟩ = some op0 := (hs.cell _).trans hT5
  have t6 : u1.cell? ⟨T, 6, none⟩ = some sn0 := (hs.cell _).trans hT6
  have z3 : u1.frozen? ⟨T, 3, none⟩ = false := (hs.frozen _).trans (hz 3 (by decide))
  have z4 : u1.frozen? ⟨T, 4, none⟩ = false := (hs.frozen _).trans (hz 4 (by decide))
  have z5 : u1.frozen? ⟨T, 5, none⟩ = false := (hs.frozen _).trans (hz 5 (by decide))
  have z6 : u1.frozen? ⟨T, 6, none⟩ = false := (hs.frozen _).trans (hz 6 (by decide))
  go_wp2_with fail
  refine ⟨rfl, Wn.same ((((hs.setCell _ _).setCell _ _).setCell _ _).setCell _ _) ?_⟩
  clear hs t3 t4 t5 t6 z3 z4 z5 z6 u1
  refine Wn.region_end ?_
  refine Wn.seq ?_
  refine Wn.region_pre (by simp [base]) 8 (by decide) (by rw [hfz]; kernel_rfl) (fun u1 hs => ?_)
  simp only [List.take]
  have hT0' : u1.cell? ⟨T, 0, none⟩ = some (.pointer (some ⟨W, 0, none⟩)) := by
    rw [hs.cell, World.cell?_setCell_other, World.cell?_setCell_other, World.cell?_setCell_other, World.cell?_setCell_other]
    · exact hT0
    all_goals simp
  have hW8' : u1.cell? ⟨W, 8, none⟩ = some (.chan (some back)) := by
    rw [hs.cell, World.cell?_setCell_other, World.cell?_setCell_other, World.cell?_setCell_other, World.cell?_setCell_other]
    · exact hW8
    all_goals simp [Ne.symm hWT]
  go_wp2_with fail
  refine ⟨rfl, Wn.same hs ?_⟩
  clear hs hT0' hW8' u1
  generalize hu' : (((u.setCell ⟨T, 3, none⟩ (.int .i64 st)).setCell ⟨T, 5, none⟩ (.int .i64 op)).setCell ⟨T, 4, none⟩ (.int .i64 c)).setCell ⟨T, 6, none⟩ (.int .i64 (changedOf xs c)) = u'
  -- the send
  refine Wn.give_to (BackTo c1 cs1) g (.agg #[]) [(⟨T, 2, none⟩, .chan (some g))] (by simp [base]) rfl rfl rfl rfl hj (by rw [hback]; rfl) rfl (by rw [hback]; exact hGb) ?_ ?_ ?_ ?_ hr0 ?_ ?_
  · intro p hp
    simp only [List.mem_singleton] at hp
    subst hp
    subst hu'
    show World.cell? _ ⟨T, 2, none⟩ = _
    rw [World.cell?_setCell_other, World.cell?_setCell_other, World.cell?_setCell_other, World.cell?_setCell_other]
    · exact hT2
    all_goals simp
  · subst hu'
    exact open0_setCell (open0_setCell (open0_setCell (open0_setCell hop)))
  · exact hown
  · intro p hp
    simp only [List.mem_singleton] at hp
    subst hp
    exact hcov
  · refine Heads.ctl (fun w => stepG_region_end) ?_
    refine Heads.ctl (fun w => stepG_region) ?_
    refine Heads.move rfl rfl (by simp [base]) rfl ?_
    refine Heads.nilCheck (ad := ⟨T, 0, none⟩) rfl rfl (by simp [base]) rfl rfl ?_
    refine Heads.fieldAddr rfl rfl (by simp [base]) rfl rfl (field_goes T) ?_
    refine Heads.load (v := .chan (some g)) rfl rfl (by simp [base]) rfl rfl (by simp) (load_chan _ g) ?_
    refine Heads.recv rfl rfl (by simp [base]) rfl Try.underlying77 z0 rfl ?_
    refine ⟨_, _, rfl, fun C' u' hn => ?_⟩
    rw [Frame.finish_at]
    subst hcs
    refine Wn.region_end (Wn.fall ?_)
    exact Wn.back rfl rfl Try.func83 (results_none rfl _ _ _) hn
  · subst hu'
    exact hnext
end Go.Proofs.Ytoabkcalphpkhaa

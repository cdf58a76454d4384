/- Merged: Mode, Atom, Cell, Latch, LatchDo. -/
import Derived.Test.YtoabkcalphpkhaaN11
/- What the layers ask of whoever goes: a thread of a world, or a free one. -/
namespace Go.Proofs.Ytoabkcalphpkhaa
open Go Go.Conc Go.RowKit
open Go.Proofs.YtoabkcalphpkhaaW.PrintWords
set_option linter.unusedVariables false
set_option linter.unusedSimpArgs false
set_option linter.unusedSectionVars false

/-- One that goes: what is known of it ('At'), and how it takes turns. -/
structure Mode where
  T : Nat
  cn : Nat
  cid : Nat → Nat
  cb : Nat → Nat
  ro : Nat → Option Obj
  At : Stat → (Nat → Prop) → World → Ctx Try.prog → Prop
  plain : ∀ {p F u C}, At p F u C → C.fz = true ∧ C.S = S0
  nobad : ∀ {F u C}, At (.go .bad) F u C → False
  on : ∀ {p F u C}, At p F u C → ∀ τ d, At p F (u.on τ d) C
  less : ∀ {p F F' u C}, At p F u C → (∀ b, F' b → F b) → At p F' u C
  alloc : ∀ {p F u C}, At p F u C → ∀ o, At p (fun b => F b ∨ b = u.heap.size) (u.alloc o) C
  set : ∀ {p F u C}, At p F u C → ∀ {a : Addr} v, F a.block → At p F (u.setCell a v) C
  grow : ∀ {p F u u' C}, At p F u C → (∀ b, b < u.heap.size → ¬ F b → u'.heap[b]? = u.heap[b]?) → u.heap.size ≤ u'.heap.size → u'.os = u.os → u'.output = u.output → At p (fun b => F b ∨ (u.heap.size ≤ b ∧ b < u'.heap.size)) u' C
  lt : ∀ {p F u C}, At p F u C → ∀ b, F b → b < u.heap.size
  rof : ∀ {p F u C}, At p F u C → ∀ b o, ro b = some o → u.heap[b]? = some o
  cell : ∀ {p F u C}, At p F u C → ∀ {c}, c < cn → ∃ v, u.heap[cb c]? = some (.cells (cCells (cid c) v) 105 (0, 0)) ∧ In64 v ∧ ¬ F (cb c)
  put : ∀ {c op f k F u C}, At (.mid c op f k) F u C → c < cn → ∃ v, u.heap[cb c]? = some (.cells (cCells (cid c) v) 105 (0, 0)) ∧ In64 v ∧
    (In64 (f v) → At (.did c op v (f v) (k v)) F (u.setCell ⟨cb c, 1, none⟩ (num (f v))) C) ∧ (f v = v → At (.did c op v v (k v)) F u C)
  turn : ∀ {c op f k F u C}, At (.go (.step c op f k)) F u C → ∀ {fr cs}, (∀ F' u' C', At (.mid c op f k) F' u' C' → (∀ b, F b → F' b) → Keep F u u' → Wn C' (fr.finish (.tuple #[])) cs u') →
    Wn C (Frame.enter Try.prog 62 #[ptr T, num (cid c), num op] .normal) (fr :: cs) u
  did : ∀ {c op old new k F u C}, At (.did c op old new k) F u C → c < cn → ∀ {fr cs}, (∀ u', At (.go k) F u' C → Keep F u u' → Wn C (fr.finish (.tuple #[])) cs u') →
    Wn C (Frame.enter Try.prog 63 #[ptr T, num old, num new] .normal) (fr :: cs) u
  await : ∀ {c k F u C}, At (.go (.await c k)) F u C → ∀ {fr cs}, (∀ b F' u' C', At (.go (k b)) F' u' C' → (∀ b, F b → F' b) → Keep F u u' → Wn C' (fr.finish (.bool b)) cs u') →
    Wn C (Frame.enter Try.prog 54 #[ptr T, num (cid c)] .normal) (fr :: cs) u
  note : ∀ {op a b k F u C}, At (.go (.note op a b k)) F u C → ∀ {fr cs}, (∀ u', At (.go k) F u' C → Keep F u u' → Wn C (fr.finish (.tuple #[])) cs u') →
    Wn C (Frame.enter Try.prog 95 #[ptr T, num op, num a, num b] .normal) (fr :: cs) u

section
variable {L : Lay} {Q : PQ} {n i T g : Nat} {p : Stat} {F F' : Nat → Prop} {u u' w1 : World} {ts : List (Nat × Nat)} {tc : Nat → TC} {s : Sys} {vth vtr v' : Value} {oc : Array Value} {pks : List Park} {recs : Nat → Goroutine} {r0 : Goroutine} {K : Sys → List Park → Prop} {Cl : Nat → Nat → Option Obj} {C : Ctx Try.prog}

theorem Rep.sys_lt (h : Rep L ts tc s vth vtr oc u) {b : Nat} (hb : sysb L ts vth vtr b) : b < u.heap.size := by
  rcases hb with e | e | e | e | e | e | e | e
  · rw [e]; exact blk_lt h.w
  · obtain ⟨k, hk⟩ := h.back; rw [e]; exact blk_lt hk
  · obtain ⟨c, hc⟩ := own_ty h.ch (k := L.cA) rfl; rw [e]; exact blk_lt hc
  · rw [e]; exact blk_lt h.o
  · obtain ⟨k, hk⟩ := List.mem_iff_getElem?.1 e; exact blk_lt (h.c k b hk)
  · obtain ⟨q, hq, e | e⟩ := e
    · obtain ⟨j, hj⟩ := List.mem_iff_getElem?.1 hq; rw [e]; exact blk_lt (h.t j q hj)
    · obtain ⟨k, hk⟩ := h.goes q hq; rw [e]; exact blk_lt hk
  · obtain ⟨c, hc⟩ := own_ty h.th e; exact blk_lt hc
  · obtain ⟨c, hc⟩ := own_ty h.tr e; exact blk_lt hc

theorem heap_alloc {u : World} {o : Obj} {b : Nat} (h : b < u.heap.size) : (u.alloc o).heap[b]? = u.heap[b]? := Below.heap_alloc u o b h
theorem Held.alloc (h : Held L Q ts tc s vth vtr oc pks recs Cl F u) (o : Obj) : Held L Q ts tc s vth vtr oc pks recs Cl (fun b => F b ∨ b = u.heap.size) (u.alloc o) := by
  have hsz : (u.alloc o).heap.size = u.heap.size + 1 := Array.size_push ..
  refine ⟨h.lens, h.rep.move (fun b hb => heap_alloc (h.rep.sys_lt hb)) rfl rfl, ⟨fun j b x hx => ?_, h.heaps.cls, h.heaps.dis, fun b hb => ?_⟩, h.ro, h.idle, h.N0, h.ton, h.par⟩
  · have := h.heaps.cl j b x hx
    rw [heap_alloc (blk_lt this)]; exact this
  · rcases hb with hb | rfl
    · have := h.heaps.fr b hb
      exact ⟨by rw [hsz]; omega, this.2⟩
    · refine ⟨by rw [hsz]; omega, fun hs => absurd (h.rep.sys_lt hs) (by omega), fun j => ?_⟩
      cases hc : Cl j u.heap.size with
      | none => rfl
      | some x => exact absurd (blk_lt (h.heaps.cl j _ x hc)) (by omega)
theorem Held.grow (h : Held L Q ts tc s vth vtr oc pks recs Cl F u) (hb : ∀ b, b < u.heap.size → ¬ F b → u'.heap[b]? = u.heap[b]?) (hsz : u.heap.size ≤ u'.heap.size) (hos : u'.os = u.os) (hout : u'.output = u.output) :
    Held L Q ts tc s vth vtr oc pks recs Cl (fun b => F b ∨ (u.heap.size ≤ b ∧ b < u'.heap.size)) u' := by
  have hnF : ∀ b, sysb L ts vth vtr b → ¬ F b := fun b hs hF => (h.heaps.fr b hF).2.1 hs
  refine ⟨h.lens, h.rep.move (fun b hs => hb b (h.rep.sys_lt hs) (hnF b hs)) hos hout, ⟨fun j b x hx => ?_, h.heaps.cls, h.heaps.dis, fun b hF => ?_⟩, h.ro, h.idle, h.N0, h.ton, h.par⟩
  · have := h.heaps.cl j b x hx
    rw [hb b (blk_lt this) (fun hF => by rw [(h.heaps.fr b hF).2.2 j] at hx; cases hx)]; exact this
  · rcases hF with hF | ⟨h1, h2⟩
    · have := h.heaps.fr b hF
      exact ⟨Nat.lt_of_lt_of_le this.1 hsz, this.2⟩
    · refine ⟨h2, fun hs => absurd (h.rep.sys_lt hs) (by omega), fun j => ?_⟩
      cases hc : Cl j b with
      | none => rfl
      | some x => exact absurd (blk_lt (h.heaps.cl j _ x hc)) (by omega)
theorem Held.set (h : Held L Q ts tc s vth vtr oc pks recs Cl F u) {a : Addr} (v : Value) (ha : F a.block) : Held L Q ts tc s vth vtr oc pks recs Cl F (u.setCell a v) := by
  have hf := h.heaps.fr _ ha
  exact ⟨h.lens, h.rep.move (fun b hb => blk_set_ne (fun e => hf.2.1 (e ▸ hb)) v) rfl rfl, h.heaps.step (fun b hb => .inl hb) (fun b h1 h2 h3 => blk_set_ne (a := a) (fun e => h2 (by rw [e]; exact ha)) v) (by rw [size_set]; exact Nat.le_refl _), h.ro, h.idle, h.N0, h.ton, h.par⟩
theorem Held.less (h : Held L Q ts tc s vth vtr oc pks recs Cl F u) (hf : ∀ b, F' b → F b) : Held L Q ts tc s vth vtr oc pks recs Cl F' u := ⟨h.lens, h.rep, h.heaps.less hf, h.ro, h.idle, h.N0, h.ton, h.par⟩
theorem Held.value (h : Held L Q ts tc s vth vtr oc pks recs Cl F u) {c b : Nat} {v : Int} (hb : L.cb[c]? = some b) (hv : In64 v) : Held L Q ts tc (s.put c v) vth vtr oc pks recs Cl F (u.setCell ⟨b, 1, none⟩ (num v)) := by
  refine ⟨h.lens, h.rep.value hb hv, h.heaps.step (fun b hs => .inl hs) (fun k h1 h2 h3 => ?_) (by rw [size_set]; exact Nat.le_refl _), h.ro, h.idle, h.N0, h.ton, h.par⟩
  exact blk_set_ne (a := ⟨b, 1, none⟩) (fun e => h1 (.inr (.inr (.inr (.inr (.inl (by rw [show k = b from e]; exact List.mem_of_getElem? hb))))))) _

theorem put_put (s : Sys) (c : Nat) : s.put c (s.vals.getD c 0) = s := by
  have : s.vals.set c (s.vals.getD c 0) = s.vals := by
    by_cases h : c < s.vals.length
    · rw [List.getD_eq_getElem?_getD, List.getElem?_eq_getElem h]
      exact List.set_getElem_self h
    · exact List.set_eq_of_length_le (by omega)
  unfold Sys.put
  rw [this]

/-- A thread of a world. -/
def worldMode (L : Lay) (i T : Nat) : Mode where
  T := T
  cn := L.cn
  cid c := c
  cb c := L.cb.getD c 0
  ro := L.ro
  At p F u C := ∃ n, AtF L (Qn L n) i T p F u C
  plain := by
    rintro p F u C ⟨n, g, ts, tc, s, vth, vtr, oc, pks, recs, r0, K, Cl, h, rfl⟩
    exact ⟨rfl, rfl⟩
  nobad := by
    rintro F u C ⟨n, g, ts, tc, s, vth, vtr, oc, pks, recs, r0, K, Cl, h, rfl⟩
    have h1 := h.go
    simp only [advS, adv] at h1
    have h2 := (h.ok _ _ h1).2 .bad (by
      have hl : i < pks.length := (List.getElem?_eq_some_iff.1 h.mine).1
      exact List.mem_of_getElem? (List.getElem?_set_self hl))
    cases h2
  on := by
    rintro p F u C ⟨n, h⟩ τ d
    exact ⟨n, h.on τ d⟩
  less := by
    rintro p F F' u C ⟨n, g, ts, tc, s, vth, vtr, oc, pks, recs, r0, K, Cl, h, rfl⟩ hf
    exact ⟨n, g, ts, tc, s, vth, vtr, oc, pks, recs, r0, K, Cl, ⟨h.held.less hf, h.me, h.mine, h.free, h.nums, h.main, h.ok, h.go⟩, rfl⟩
  alloc := by
    rintro p F u C ⟨n, g, ts, tc, s, vth, vtr, oc, pks, recs, r0, K, Cl, h, rfl⟩ o
    exact ⟨n, g, ts, tc, s, vth, vtr, oc, pks, recs, r0, K, Cl, ⟨h.held.alloc o, h.me, h.mine, h.free, h.nums, h.main, h.ok, h.go⟩, rfl⟩
  set := by
    rintro p F u C ⟨n, g, ts, tc, s, vth, vtr, oc, pks, recs, r0, K, Cl, h, rfl⟩ a v ha
    exact ⟨n, g, ts, tc, s, vth, vtr, oc, pks, recs, r0, K, Cl, ⟨h.held.set v ha, h.me, h.mine, h.free, h.nums, h.main, h.ok, h.go⟩, rfl⟩
  grow := by
    rintro p F u u' C ⟨n, g, ts, tc, s, vth, vtr, oc, pks, recs, r0, K, Cl, h, rfl⟩ hb hsz hos hout
    exact ⟨n, g, ts, tc, s, vth, vtr, oc, pks, recs, r0, K, Cl, ⟨h.held.grow hb hsz hos hout, h.me, h.mine, h.free, h.nums, h.main, h.ok, h.go⟩, rfl⟩
  lt := by
    rintro p F u C ⟨n, g, ts, tc, s, vth, vtr, oc, pks, recs, r0, K, Cl, h, rfl⟩ b hb
    exact (h.held.heaps.fr b hb).1
  rof := by
    rintro p F u C ⟨n, g, ts, tc, s, vth, vtr, oc, pks, recs, r0, K, Cl, h, rfl⟩ b o hb
    exact h.held.heaps.cl 0 b o (by rw [h.held.ro]; exact hb)
  cell := by
    rintro p F u C ⟨n, g, ts, tc, s, vth, vtr, oc, pks, recs, r0, K, Cl, h, rfl⟩ c hc
    have hr := h.held.rep
    have hl : c < L.cb.length := by rw [hr.clen]; exact hc
    have hb : L.cb[c]? = some (L.cb.getD c 0) := by rw [List.getD_eq_getElem?_getD, List.getElem?_eq_getElem hl]; rfl
    refine ⟨s.vals.getD c 0, hr.c c _ hb, hr.in64 _ ?_, fun hF => (h.held.heaps.fr _ hF).2.1 (.inr (.inr (.inr (.inr (.inl (List.mem_of_getElem? hb))))))⟩
    have hv : c < s.vals.length := by rw [hr.vlen]; exact hc
    rw [List.getD_eq_getElem?_getD, List.getElem?_eq_getElem hv]
    exact List.getElem_mem _
  put := by
    rintro c op f k F u C ⟨n, g, ts, tc, s, vth, vtr, oc, pks, recs, r0, K, Cl, h, rfl⟩ hc
    have hr := h.held.rep
    have hl : c < L.cb.length := by rw [hr.clen]; exact hc
    have hb : L.cb[c]? = some (L.cb.getD c 0) := by rw [List.getD_eq_getElem?_getD, List.getElem?_eq_getElem hl]; rfl
    have hv : c < s.vals.length := by rw [hr.vlen]; exact hc
    have hgo := h.go
    simp only [advS] at hgo
    refine ⟨s.vals.getD c 0, hr.c c _ hb, hr.in64 _ ?_, fun hin => ?_, fun he => ?_⟩
    · rw [List.getD_eq_getElem?_getD, List.getElem?_eq_getElem hv]
      exact List.getElem_mem _
    · exact ⟨n, g, ts, tc, _, vth, vtr, oc, pks, recs, r0, K, Cl, ⟨h.held.value hb hin, h.me, h.mine, h.free, h.nums, h.main, h.ok, hgo⟩, rfl⟩
    · rw [he, put_put] at hgo
      exact ⟨n, g, ts, tc, _, vth, vtr, oc, pks, recs, r0, K, Cl, ⟨h.held, h.me, h.mine, h.free, h.nums, h.main, h.ok, hgo⟩, rfl⟩
  turn := by
    rintro c op f k F u C ⟨n, h⟩ fr cs hn
    exact h.turn62 fun m F' u' C' hat hF hk => hn F' u' C' ⟨m, hat⟩ hF hk
  did := by
    rintro c op old new k F u C ⟨n, h⟩ hc fr cs hn
    exact h.did63 hc fun u' hat hk => hn u' ⟨n, hat⟩ hk
  await := by
    rintro c k F u C ⟨n, h⟩ fr cs hn
    exact h.await54 fun m b F' u' C' hat hF hk => hn b F' u' C' ⟨m, hat⟩ hF hk
  note := by
    rintro op a b k F u C ⟨n, h⟩ fr cs hn
    exact h.note95 fun u' hat hk => hn u' ⟨n, hat⟩ hk
end
end Go.Proofs.Ytoabkcalphpkhaa

/- sync/atomic's Int64, as whoever goes uses it: one step each. (Printed by gen_atom.py.) -/
namespace Go.Proofs.Ytoabkcalphpkhaa
open Go Go.Conc Go.RowKit
set_option linter.unusedVariables false
set_option linter.unusedSimpArgs false
set_option linter.unusedSectionVars false
set_option maxRecDepth 100000

section
variable {C : Ctx Try.prog} {u : World} {fr : Frame} {cs : List Frame} {b : Nat} {k v d0 : Int}
theorem x85n : Extern.findNext Try.f85 = none := by kernel_rfl
theorem x85e : Extern.find Try.f85 = some (Extern.Atomic.storeT) := by kernel_rfl
theorem x86n : Extern.findNext Try.f86 = none := by kernel_rfl
theorem x86e : Extern.find Try.f86 = some (Extern.Atomic.swapT (.int .i64)) := by kernel_rfl
theorem x87n : Extern.findNext Try.f87 = none := by kernel_rfl
theorem x87e : Extern.find Try.f87 = some (Extern.Atomic.casT (.int .i64)) := by kernel_rfl
theorem x88n : Extern.findNext Try.f88 = none := by kernel_rfl
theorem x88e : Extern.find Try.f88 = some (Extern.Atomic.loadT (.int .i64)) := by kernel_rfl
theorem x89n : Extern.findNext Try.f89 = none := by kernel_rfl
theorem x89e : Extern.find Try.f89 = some (Extern.Atomic.update (Op.intArith .add) .i64 true) := by kernel_rfl
theorem blk_free {G : Guard} {w : World} (hl : Like G w u) {t i : Nat} {c : Array Value} (hb : u.heap[b]? = some (.cells c t (0, 0))) : ¬ G.has ⟨b, i, none⟩ := (hl.thaw ⟨b, i, none⟩ (blk_thawed hb i)).2

theorem astore61 (hfz : C.fz = true) (hb : u.heap[b]? = some (.cells (cCells k v) 105 (0, 0))) (hn : Wn C (fr.finish (.tuple #[])) cs (u.setCell ⟨b, 1, none⟩ (num d0))) :
    Wn C (Frame.enter Try.prog 61 #[.pointer (some ⟨b, 1, none⟩), num d0] .normal) (fr :: cs) u := by
  have hc : u.cell? ⟨b, 1, none⟩ = some (.int .i64 v) := (blk_cell hb 1).trans rfl
  have hz : u.frozen? ⟨b, 1, none⟩ = false := blk_thawed hb 1
  refine Wn.body Try.func61 rfl ?_
  simp only [Try.ntmps61, List.size_toArray, List.length_cons, List.length_nil, Nat.reduceAdd, Nat.reduceSub, Array.replicate_succ, Array.replicate_zero, List.push_toArray, List.append_toArray, List.nil_append, List.cons_append]
  refine Wn.open ?_
  refine Wn.span1 0 4 5 (by simp [base]) (by decide) (by decide) (by rw [hfz]; kernel_rfl) ?_
  simp only [List.take, List.drop]
  go_wp2_with fail
  refine ⟨rfl, ?_⟩
  refine Wn.astore 4 1 0 rfl (by simp [base]) rfl rfl rfl Try.func85 rfl rfl x85n x85e rfl rfl hc hz ?_
  refine Wn.range_end (Wn.fall (Wn.back rfl rfl Try.func61 (results_none rfl _ _ _) ?_))
  exact hn

theorem aswap64 (hfz : C.fz = true) (hb : u.heap[b]? = some (.cells (cCells k v) 105 (0, 0))) (hn : Wn C (fr.finish (num v)) cs (u.setCell ⟨b, 1, none⟩ (num d0))) :
    Wn C (Frame.enter Try.prog 64 #[.pointer (some ⟨b, 1, none⟩), num d0] .normal) (fr :: cs) u := by
  have hc : u.cell? ⟨b, 1, none⟩ = some (.int .i64 v) := (blk_cell hb 1).trans rfl
  have hz : u.frozen? ⟨b, 1, none⟩ = false := blk_thawed hb 1
  refine Wn.body Try.func64 rfl ?_
  simp only [Try.ntmps64, List.size_toArray, List.length_cons, List.length_nil, Nat.reduceAdd, Nat.reduceSub, Array.replicate_succ, Array.replicate_zero, List.push_toArray, List.append_toArray, List.nil_append, List.cons_append]
  refine Wn.seq (Wn.reg (by simp [base]) (by rw [hfz]; kernel_rfl) ?_)
  go_wp2_with fail
  refine ⟨rfl, ?_⟩
  refine Wn.seq (Wn.open ?_)
  refine Wn.span1 0 4 6 (by simp [base]) (by decide) (by decide) (by rw [hfz]; kernel_rfl) ?_
  simp only [List.take, List.drop]
  go_wp2_with fail
  refine ⟨rfl, ?_⟩
  refine Wn.aswap 4 2 1 rfl (by simp [base]) rfl rfl rfl Try.func86 rfl rfl x86n x86e rfl rfl hc hz ?_
  refine Wn.span1 5 1 1 (by simp [base]) (by decide) (by decide) (by rw [hfz]; kernel_rfl) ?_
  simp only [List.take, List.drop]
  go_wp2_with fail
  refine ⟨rfl, ?_⟩
  refine Wn.range_end (Wn.ret (Wn.back rfl rfl Try.func64 (results_tmp rfl _ _ _) ?_))
  exact hn

theorem acas65_hit (hfz : C.fz = true) (hb : u.heap[b]? = some (.cells (cCells k v) 105 (0, 0))) (hn : Wn C (fr.finish (.bool true)) cs (u.setCell ⟨b, 1, none⟩ (num d0))) :
    Wn C (Frame.enter Try.prog 65 #[.pointer (some ⟨b, 1, none⟩), num v, num d0] .normal) (fr :: cs) u := by
  have hc : u.cell? ⟨b, 1, none⟩ = some (.int .i64 v) := (blk_cell hb 1).trans rfl
  have hz : u.frozen? ⟨b, 1, none⟩ = false := blk_thawed hb 1
  refine Wn.body Try.func65 rfl ?_
  simp only [Try.ntmps65, List.size_toArray, List.length_cons, List.length_nil, Nat.reduceAdd, Nat.reduceSub, Array.replicate_succ, Array.replicate_zero, List.push_toArray, List.append_toArray, List.nil_append, List.cons_append]
  refine Wn.seq (Wn.reg (by simp [base]) (by rw [hfz]; kernel_rfl) ?_)
  go_wp2_with fail
  refine ⟨rfl, ?_⟩
  refine Wn.seq (Wn.open ?_)
  refine Wn.span1 0 5 7 (by simp [base]) (by decide) (by decide) (by rw [hfz]; kernel_rfl) ?_
  simp only [List.take, List.drop]
  go_wp2_with fail
  refine ⟨rfl, ?_⟩
  refine Wn.acas_hit 5 2 1 rfl (by simp [base]) rfl rfl rfl Try.func87 rfl rfl x87n x87e rfl rfl rfl hc hz ?_
  refine Wn.span1 6 1 1 (by simp [base]) (by decide) (by decide) (by rw [hfz]; kernel_rfl) ?_
  simp only [List.take, List.drop]
  go_wp2_with fail
  refine ⟨rfl, ?_⟩
  refine Wn.range_end (Wn.ret (Wn.back rfl rfl Try.func65 (results_tmp rfl _ _ _) ?_))
  exact hn

theorem acas65_miss {x : Int} (hfz : C.fz = true) (hb : u.heap[b]? = some (.cells (cCells k v) 105 (0, 0))) (hne : ¬ v = x) (hn : Wn C (fr.finish (.bool false)) cs u) :
    Wn C (Frame.enter Try.prog 65 #[.pointer (some ⟨b, 1, none⟩), num x, num d0] .normal) (fr :: cs) u := by
  have hc : u.cell? ⟨b, 1, none⟩ = some (.int .i64 v) := (blk_cell hb 1).trans rfl
  have hz : u.frozen? ⟨b, 1, none⟩ = false := blk_thawed hb 1
  refine Wn.body Try.func65 rfl ?_
  simp only [Try.ntmps65, List.size_toArray, List.length_cons, List.length_nil, Nat.reduceAdd, Nat.reduceSub, Array.replicate_succ, Array.replicate_zero, List.push_toArray, List.append_toArray, List.nil_append, List.cons_append]
  refine Wn.seq (Wn.reg (by simp [base]) (by rw [hfz]; kernel_rfl) ?_)
  go_wp2_with fail
  refine ⟨rfl, ?_⟩
  refine Wn.seq (Wn.open ?_)
  refine Wn.span1 0 5 7 (by simp [base]) (by decide) (by decide) (by rw [hfz]; kernel_rfl) ?_
  simp only [List.take, List.drop]
  go_wp2_with fail
  refine ⟨rfl, ?_⟩
  refine Wn.acas_miss 5 2 1 rfl (by simp [base]) rfl rfl rfl Try.func87 rfl rfl x87n x87e rfl rfl rfl hc hz hne ?_
  refine Wn.span1 6 1 1 (by simp [base]) (by decide) (by decide) (by rw [hfz]; kernel_rfl) ?_
  simp only [List.take, List.drop]
  go_wp2_with fail
  refine ⟨rfl, ?_⟩
  refine Wn.range_end (Wn.ret (Wn.back rfl rfl Try.func65 (results_tmp rfl _ _ _) ?_))
  exact hn

theorem aload66 (hfz : C.fz = true) (hb : u.heap[b]? = some (.cells (cCells k v) 105 (0, 0))) (hn : Wn C (fr.finish (num v)) cs u) :
    Wn C (Frame.enter Try.prog 66 #[.pointer (some ⟨b, 1, none⟩)] .normal) (fr :: cs) u := by
  have hc : u.cell? ⟨b, 1, none⟩ = some (.int .i64 v) := (blk_cell hb 1).trans rfl
  have hz : u.frozen? ⟨b, 1, none⟩ = false := blk_thawed hb 1
  refine Wn.body Try.func66 rfl ?_
  simp only [Try.ntmps66, List.size_toArray, List.length_cons, List.length_nil, Nat.reduceAdd, Nat.reduceSub, Array.replicate_succ, Array.replicate_zero, List.push_toArray, List.append_toArray, List.nil_append, List.cons_append]
  refine Wn.seq (Wn.reg (by simp [base]) (by rw [hfz]; kernel_rfl) ?_)
  go_wp2_with fail
  refine ⟨rfl, ?_⟩
  refine Wn.seq (Wn.open ?_)
  refine Wn.span1 0 3 5 (by simp [base]) (by decide) (by decide) (by rw [hfz]; kernel_rfl) ?_
  simp only [List.take, List.drop]
  go_wp2_with fail
  refine ⟨rfl, ?_⟩
  refine Wn.aload 3 2 1 rfl (by simp [base]) rfl rfl rfl Try.func88 rfl rfl x88n x88e rfl hc hz ?_
  refine Wn.span1 4 1 1 (by simp [base]) (by decide) (by decide) (by rw [hfz]; kernel_rfl) ?_
  simp only [List.take, List.drop]
  go_wp2_with fail
  refine ⟨rfl, ?_⟩
  refine Wn.range_end (Wn.ret (Wn.back rfl rfl Try.func66 (results_tmp rfl _ _ _) ?_))
  exact hn

theorem aadd67 (hfz : C.fz = true) (hb : u.heap[b]? = some (.cells (cCells k v) 105 (0, 0))) (hn : Wn C (fr.finish (num (wrap64 (v + d0)))) cs (u.setCell ⟨b, 1, none⟩ (num (wrap64 (v + d0))))) :
    Wn C (Frame.enter Try.prog 67 #[.pointer (some ⟨b, 1, none⟩), num d0] .normal) (fr :: cs) u := by
  have hc : u.cell? ⟨b, 1, none⟩ = some (.int .i64 v) := (blk_cell hb 1).trans rfl
  have hz : u.frozen? ⟨b, 1, none⟩ = false := blk_thawed hb 1
  refine Wn.body Try.func67 rfl ?_
  simp only [Try.ntmps67, List.size_toArray, List.length_cons, List.length_nil, Nat.reduceAdd, Nat.reduceSub, Array.replicate_succ, Array.replicate_zero, List.push_toArray, List.append_toArray, List.nil_append, List.cons_append]
  refine Wn.seq (Wn.reg (by simp [base]) (by rw [hfz]; kernel_rfl) ?_)
  go_wp2_with fail
  refine ⟨rfl, ?_⟩
  refine Wn.seq (Wn.open ?_)
  refine Wn.span1 0 4 6 (by simp [base]) (by decide) (by decide) (by rw [hfz]; kernel_rfl) ?_
  simp only [List.take, List.drop]
  go_wp2_with fail
  refine ⟨rfl, ?_⟩
  have hwr : IntKind.wrap .i64 (v + d0) = wrap64 (v + d0) := by rw [IntKind.wrap_i64]; unfold wrap64; rfl
  refine Wn.aadd 4 2 1 rfl (by simp [base]) rfl rfl rfl Try.func89 rfl rfl x89n x89e rfl rfl hc hz ?_
  rw [hwr]
  refine Wn.span1 5 1 1 (by simp [base]) (by decide) (by decide) (by rw [hfz]; kernel_rfl) ?_
  simp only [List.take, List.drop]
  go_wp2_with fail
  refine ⟨rfl, ?_⟩
  refine Wn.range_end (Wn.ret (Wn.back rfl rfl Try.func67 (results_tmp rfl _ _ _) ?_))
  exact hn
end
end Go.Proofs.Ytoabkcalphpkhaa

/- Package cell: what a cell's methods do, by whoever goes. (Printed by gen_cell.py.) -/
namespace Go.Proofs.Ytoabkcalphpkhaa
open Go Go.Conc Go.RowKit
set_option linter.unusedVariables false
set_option linter.unusedSimpArgs false
set_option linter.unusedSectionVars false
set_option maxRecDepth 100000

theorem wrap64_in64 (x : Int) : In64 (wrap64 x) := by unfold In64 wrap64; omega
theorem wrap64_back {v n : Int} (hv : In64 v) : wrap64 (wrap64 (v + n) - n) = v := by unfold In64 at hv; unfold wrap64; omega

section
variable {M : Mode} {F : Nat → Prop} {u : World} {C : Ctx Try.prog} {fr : Frame} {cs : List Frame} {c : Nat}
theorem load43 {k : Int → Proc} (h : M.At (.go (.step c 1 id k)) F u C) (hc : c < M.cn) (hn : ∀ v F' u' C', M.At (.go (k v)) F' u' C' → (∀ b, F b → F' b) → Keep F u u' → In64 v → Wn C' (fr.finish (num v)) cs u') :
    Wn C (Frame.enter Try.prog 43 #[ptr (M.cb c), ptr M.T] .normal) (fr :: cs) u := by
  have hfz := (M.plain h).1
  obtain ⟨v0, hb0, _⟩ := M.cell h hc
  have hc0 : u.cell? ⟨M.cb c, 0, none⟩ = some (.int .i64 (M.cid c)) := (blk_cell hb0 0).trans rfl
  clear hb0
  refine Wn.body Try.func43 rfl ?_
  simp only [Try.ntmps43, List.size_toArray, List.length_cons, List.length_nil, Nat.reduceAdd, Nat.reduceSub, Array.replicate_succ, Array.replicate_zero, List.push_toArray, List.append_toArray, List.nil_append, List.cons_append]
  refine Wn.seq (Wn.reg (by simp [base]) (by rw [hfz]; kernel_rfl) ?_)
  go_wp2_with fail
  refine ⟨rfl, ?_⟩
  refine Wn.seq (Wn.open ?_)
  refine Wn.span1 0 5 6 (by simp [base]) (by decide) (by decide) (by rw [hfz]; kernel_rfl) ?_
  simp only [List.take, List.drop]
  go_wp2_with fail
  refine ⟨rfl, ?_⟩
  refine Wn.callC 5 1 0 rfl (by simp [base]) rfl rfl rfl (by kernel_rfl) ?_
  refine M.turn h ?_
  intro F1 u1 C1 h1 hF1 hk1
  rw [Frame.finish_at]
  refine Wn.range_end ?_
  have hfz1 := (M.plain h1).1
  clear hc0
  obtain ⟨v, hb, hin, _, hkeep⟩ := M.put h1 hc
  refine Wn.seq (Wn.open ?_)
  refine Wn.span1 0 3 5 (by simp [base]) (by decide) (by decide) (by rw [hfz1]; kernel_rfl) ?_
  simp only [List.take, List.drop]
  go_wp2_with fail
  refine ⟨rfl, ?_⟩
  refine Wn.callC 3 2 1 rfl (by simp [base]) rfl rfl rfl (by kernel_rfl) ?_
  refine aload66 hfz1 hb ?_
  rw [Frame.finish_at]
  refine Wn.span1 4 1 1 (by simp [base]) (by decide) (by decide) (by rw [hfz1]; kernel_rfl) ?_
  simp only [List.take, List.drop]
  go_wp2_with fail
  refine ⟨rfl, ?_⟩
  refine Wn.range_end ?_
  refine Wn.seq (Wn.open ?_)
  refine Wn.span1 0 3 4 (by simp [base]) (by decide) (by decide) (by rw [hfz1]; kernel_rfl) ?_
  simp only [List.take, List.drop]
  go_wp2_with fail
  refine ⟨rfl, ?_⟩
  refine Wn.callC 3 1 0 rfl (by simp [base]) rfl rfl rfl (by kernel_rfl) ?_
  refine M.did (hkeep rfl) hc ?_
  intro u2 h2 hk2
  rw [Frame.finish_at]
  refine Wn.range_end ?_
  refine Wn.seq (Wn.reg (by simp [base]) (by rw [hfz1]; kernel_rfl) ?_)
  go_wp2_with fail
  refine ⟨rfl, ?_⟩
  refine Wn.ret ?_
  refine Wn.back rfl rfl Try.func43 (results_tmp rfl _ _ _) ?_
  exact hn v F1 u2 C1 h2 hF1 (hk1.trans' hF1 hk2) hin

theorem store38 {x : Int} (hx : In64 x) {k : Int → Proc} (h : M.At (.go (.step c 2 (fun _ => x) k)) F u C) (hc : c < M.cn) (hn : ∀ v F' u' C', M.At (.go (k v)) F' u' C' → (∀ b, F b → F' b) → Keep F u u' → In64 v → Wn C' (fr.finish (.tuple #[])) cs u') :
    Wn C (Frame.enter Try.prog 38 #[ptr (M.cb c), ptr M.T, num x] .normal) (fr :: cs) u := by
  have hfz := (M.plain h).1
  obtain ⟨v0, hb0, _⟩ := M.cell h hc
  have hc0 : u.cell? ⟨M.cb c, 0, none⟩ = some (.int .i64 (M.cid c)) := (blk_cell hb0 0).trans rfl
  clear hb0
  refine Wn.body Try.func38 rfl ?_
  simp only [Try.ntmps38, List.size_toArray, List.length_cons, List.length_nil, Nat.reduceAdd, Nat.reduceSub, Array.replicate_succ, Array.replicate_zero, List.push_toArray, List.append_toArray, List.nil_append, List.cons_append]
  refine Wn.seq (Wn.open ?_)
  refine Wn.span1 0 5 6 (by simp [base]) (by decide) (by decide) (by rw [hfz]; kernel_rfl) ?_
  simp only [List.take, List.drop]
  go_wp2_with fail
  refine ⟨rfl, ?_⟩
  refine Wn.callC 5 1 0 rfl (by simp [base]) rfl rfl rfl (by kernel_rfl) ?_
  refine M.turn h ?_
  intro F1 u1 C1 h1 hF1 hk1
  rw [Frame.finish_at]
  refine Wn.range_end ?_
  have hfz1 := (M.plain h1).1
  clear hc0
  obtain ⟨v, hb, hin, hput, _⟩ := M.put h1 hc
  obtain ⟨_, _, _, hFc⟩ := M.cell h1 hc
  refine Wn.open ?_
  refine Wn.span1 0 5 8 (by simp [base]) (by decide) (by decide) (by rw [hfz1]; kernel_rfl) ?_
  simp only [List.take, List.drop]
  go_wp2_with fail
  refine ⟨rfl, ?_⟩
  refine Wn.callC 5 3 2 rfl (by simp [base]) rfl rfl rfl (by kernel_rfl) ?_
  refine aswap64 hfz1 hb ?_
  rw [Frame.finish_at]
  refine Wn.span1 6 1 2 (by simp [base]) (by decide) (by decide) (by rw [hfz1]; kernel_rfl) ?_
  simp only [List.take, List.drop]
  go_wp2_with fail
  refine ⟨rfl, ?_⟩
  refine Wn.callC 7 1 0 rfl (by simp [base]) rfl rfl rfl (by kernel_rfl) ?_
  refine M.did (hput hx) hc ?_
  intro u2 h2 hk2
  rw [Frame.finish_at]
  refine Wn.range_end (Wn.fall ?_)
  refine Wn.back rfl rfl Try.func38 (results_none rfl _ _ _) ?_
  refine hn v F1 u2 C1 h2 hF1 (hk1.trans' hF1 (Keep.trans (fun b hb' => blk_set_ne (a := ⟨M.cb c, 1, none⟩) (fun e => hFc (by rw [← show b = M.cb c from e]; exact hb')) _) hk2)) hin

theorem swap39 {x : Int} (hx : In64 x) {k : Int → Proc} (h : M.At (.go (.step c 3 (fun _ => x) k)) F u C) (hc : c < M.cn) (hn : ∀ v F' u' C', M.At (.go (k v)) F' u' C' → (∀ b, F b → F' b) → Keep F u u' → In64 v → Wn C' (fr.finish (num v)) cs u') :
    Wn C (Frame.enter Try.prog 39 #[ptr (M.cb c), ptr M.T, num x] .normal) (fr :: cs) u := by
  have hfz := (M.plain h).1
  obtain ⟨v0, hb0, _⟩ := M.cell h hc
  have hc0 : u.cell? ⟨M.cb c, 0, none⟩ = some (.int .i64 (M.cid c)) := (blk_cell hb0 0).trans rfl
  clear hb0
  refine Wn.body Try.func39 rfl ?_
  simp only [Try.ntmps39, List.size_toArray, List.length_cons, List.length_nil, Nat.reduceAdd, Nat.reduceSub, Array.replicate_succ, Array.replicate_zero, List.push_toArray, List.append_toArray, List.nil_append, List.cons_append]
  refine Wn.seq (Wn.reg (by simp [base]) (by rw [hfz]; kernel_rfl) ?_)
  go_wp2_with fail
  refine ⟨rfl, ?_⟩
  refine Wn.seq (Wn.open ?_)
  refine Wn.span1 0 5 6 (by simp [base]) (by decide) (by decide) (by rw [hfz]; kernel_rfl) ?_
  simp only [List.take, List.drop]
  go_wp2_with fail
  refine ⟨rfl, ?_⟩
  refine Wn.callC 5 1 0 rfl (by simp [base]) rfl rfl rfl (by kernel_rfl) ?_
  refine M.turn h ?_
  intro F1 u1 C1 h1 hF1 hk1
  rw [Frame.finish_at]
  refine Wn.range_end ?_
  have hfz1 := (M.plain h1).1
  clear hc0
  obtain ⟨v, hb, hin, hput, _⟩ := M.put h1 hc
  obtain ⟨_, _, _, hFc⟩ := M.cell h1 hc
  refine Wn.seq (Wn.open ?_)
  refine Wn.span1 0 4 6 (by simp [base]) (by decide) (by decide) (by rw [hfz1]; kernel_rfl) ?_
  simp only [List.take, List.drop]
  go_wp2_with fail
  refine ⟨rfl, ?_⟩
  refine Wn.callC 4 2 1 rfl (by simp [base]) rfl rfl rfl (by kernel_rfl) ?_
  refine aswap64 hfz1 hb ?_
  rw [Frame.finish_at]
  refine Wn.span1 5 1 1 (by simp [base]) (by decide) (by decide) (by rw [hfz1]; kernel_rfl) ?_
  simp only [List.take, List.drop]
  go_wp2_with fail
  refine ⟨rfl, ?_⟩
  refine Wn.range_end ?_
  refine Wn.seq (Wn.open ?_)
  refine Wn.span1 0 3 4 (by simp [base]) (by decide) (by decide) (by rw [hfz1]; kernel_rfl) ?_
  simp only [List.take, List.drop]
  go_wp2_with fail
  refine ⟨rfl, ?_⟩
  refine Wn.callC 3 1 0 rfl (by simp [base]) rfl rfl rfl (by kernel_rfl) ?_
  refine M.did (hput hx) hc ?_
  intro u2 h2 hk2
  rw [Frame.finish_at]
  refine Wn.range_end ?_
  refine Wn.seq (Wn.reg (by simp [base]) (by rw [hfz1]; kernel_rfl) ?_)
  go_wp2_with fail
  refine ⟨rfl, ?_⟩
  refine Wn.ret ?_
  refine Wn.back rfl rfl Try.func39 (results_tmp rfl _ _ _) ?_
  refine hn v F1 u2 C1 h2 hF1 (hk1.trans' hF1 (Keep.trans (fun b hb' => blk_set_ne (a := ⟨M.cb c, 1, none⟩) (fun e => hFc (by rw [← show b = M.cb c from e]; exact hb')) _) hk2)) hin

theorem add41 {x : Int} {k : Int → Proc} (h : M.At (.go (.step c 5 (fun v => wrap64 (v + x)) k)) F u C) (hc : c < M.cn) (hn : ∀ v F' u' C', M.At (.go (k v)) F' u' C' → (∀ b, F b → F' b) → Keep F u u' → In64 v → Wn C' (fr.finish (num (wrap64 (v + x)))) cs u') :
    Wn C (Frame.enter Try.prog 41 #[ptr (M.cb c), ptr M.T, num x] .normal) (fr :: cs) u := by
  have hfz := (M.plain h).1
  obtain ⟨v0, hb0, _⟩ := M.cell h hc
  have hc0 : u.cell? ⟨M.cb c, 0, none⟩ = some (.int .i64 (M.cid c)) := (blk_cell hb0 0).trans rfl
  clear hb0
  refine Wn.body Try.func41 rfl ?_
  simp only [Try.ntmps41, List.size_toArray, List.length_cons, List.length_nil, Nat.reduceAdd, Nat.reduceSub, Array.replicate_succ, Array.replicate_zero, List.push_toArray, List.append_toArray, List.nil_append, List.cons_append]
  refine Wn.seq (Wn.reg (by simp [base]) (by rw [hfz]; kernel_rfl) ?_)
  go_wp2_with fail
  refine ⟨rfl, ?_⟩
  refine Wn.seq (Wn.open ?_)
  refine Wn.span1 0 5 6 (by simp [base]) (by decide) (by decide) (by rw [hfz]; kernel_rfl) ?_
  simp only [List.take, List.drop]
  go_wp2_with fail
  refine ⟨rfl, ?_⟩
  refine Wn.callC 5 1 0 rfl (by simp [base]) rfl rfl rfl (by kernel_rfl) ?_
  refine M.turn h ?_
  intro F1 u1 C1 h1 hF1 hk1
  rw [Frame.finish_at]
  refine Wn.range_end ?_
  have hfz1 := (M.plain h1).1
  clear hc0
  obtain ⟨v, hb, hin, hput, _⟩ := M.put h1 hc
  obtain ⟨_, _, _, hFc⟩ := M.cell h1 hc
  refine Wn.seq (Wn.open ?_)
  refine Wn.span1 0 4 6 (by simp [base]) (by decide) (by decide) (by rw [hfz1]; kernel_rfl) ?_
  simp only [List.take, List.drop]
  go_wp2_with fail
  refine ⟨rfl, ?_⟩
  refine Wn.callC 4 2 1 rfl (by simp [base]) rfl rfl rfl (by kernel_rfl) ?_
  refine aadd67 hfz1 hb ?_
  rw [Frame.finish_at]
  refine Wn.span1 5 1 1 (by simp [base]) (by decide) (by decide) (by rw [hfz1]; kernel_rfl) ?_
  simp only [List.take, List.drop]
  go_wp2_with fail
  refine ⟨rfl, ?_⟩
  refine Wn.range_end ?_
  clear hb
  generalize hw : wrap64 (v + x) = w
  refine Wn.seq (Wn.open ?_)
  refine Wn.span1 0 5 6 (by simp [base]) (by decide) (by decide) (by rw [hfz1]; kernel_rfl) ?_
  simp only [List.take, List.drop]
  go_wp2_with fail
  refine ⟨rfl, ?_⟩
  refine Wn.callC 5 1 0 rfl (by simp [base]) rfl rfl rfl (by kernel_rfl) ?_
  have hbk : wrap64 (w - x) = v := by rw [← hw]; exact wrap64_back hin
  show Wn _ (Frame.enter Try.prog 63 #[ptr M.T, num (wrap64 (w - x)), num w] _) _ _
  rw [hbk]
  rw [hw] at hput
  refine M.did (hput (by rw [← hw]; exact wrap64_in64 _)) hc ?_
  intro u2 h2 hk2
  rw [Frame.finish_at]
  refine Wn.range_end ?_
  refine Wn.seq (Wn.reg (by simp [base]) (by rw [hfz1]; kernel_rfl) ?_)
  go_wp2_with fail
  refine ⟨rfl, ?_⟩
  refine Wn.ret ?_
  refine Wn.back rfl rfl Try.func41 (results_tmp rfl _ _ _) ?_
  have hn' := hn v
  rw [hw] at hn'
  refine hn' F1 u2 C1 h2 hF1 (hk1.trans' hF1 (Keep.trans (fun b hb' => blk_set_ne (a := ⟨M.cb c, 1, none⟩) (fun e => hFc (by rw [← show b = M.cb c from e]; exact hb')) _) hk2)) hin

theorem cas40 {old new : Int} (hx : In64 new) {k : Int → Proc} (h : M.At (.go (.step c 4 (fun v => if v = old then new else v) k)) F u C) (hc : c < M.cn) (hn : ∀ v F' u' C', M.At (.go (k v)) F' u' C' → (∀ b, F b → F' b) → Keep F u u' → In64 v → Wn C' (fr.finish (.bool (decide (v = old)))) cs u') :
    Wn C (Frame.enter Try.prog 40 #[ptr (M.cb c), ptr M.T, num old, num new] .normal) (fr :: cs) u := by
  have hfz := (M.plain h).1
  obtain ⟨v0, hb0, _⟩ := M.cell h hc
  have hc0 : u.cell? ⟨M.cb c, 0, none⟩ = some (.int .i64 (M.cid c)) := (blk_cell hb0 0).trans rfl
  clear hb0
  refine Wn.body Try.func40 rfl ?_
  simp only [Try.ntmps40, List.size_toArray, List.length_cons, List.length_nil, Nat.reduceAdd, Nat.reduceSub, Array.replicate_succ, Array.replicate_zero, List.push_toArray, List.append_toArray, List.nil_append, List.cons_append]
  refine Wn.seq (Wn.reg (by simp [base]) (by rw [hfz]; kernel_rfl) ?_)
  go_wp2_with fail
  refine ⟨rfl, ?_⟩
  refine Wn.seq (Wn.open ?_)
  refine Wn.span1 0 5 6 (by simp [base]) (by decide) (by decide) (by rw [hfz]; kernel_rfl) ?_
  simp only [List.take, List.drop]
  go_wp2_with fail
  refine ⟨rfl, ?_⟩
  refine Wn.callC 5 1 0 rfl (by simp [base]) rfl rfl rfl (by kernel_rfl) ?_
  refine M.turn h ?_
  intro F1 u1 C1 h1 hF1 hk1
  rw [Frame.finish_at]
  refine Wn.range_end ?_
  have hfz1 := (M.plain h1).1
  clear hc0
  obtain ⟨v, hb, hin, hput, hkeep⟩ := M.put h1 hc
  obtain ⟨_, _, _, hFc⟩ := M.cell h1 hc
  refine Wn.seq (Wn.seq (Wn.open ?_))
  refine Wn.span1 0 5 6 (by simp [base]) (by decide) (by decide) (by rw [hfz1]; kernel_rfl) ?_
  simp only [List.take, List.drop]
  go_wp2_with fail
  refine ⟨rfl, ?_⟩
  refine Wn.callC 5 1 0 rfl (by simp [base]) rfl rfl rfl (by kernel_rfl) ?_
  by_cases hv : v = old
  · subst hv
    simp only [if_true] at hput
    refine acas65_hit (d0 := new) hfz1 hb ?_
    rw [Frame.finish_at]
    refine Wn.range_end (Wn.cond rfl ?_)
    simp only [if_true]
    refine Wn.seq (Wn.open ?_)
    refine Wn.span1 0 3 4 (by simp [base]) (by decide) (by decide) (by rw [hfz1]; kernel_rfl) ?_
    simp only [List.take, List.drop]
    go_wp2_with fail
    refine ⟨rfl, ?_⟩
    refine Wn.callC 3 1 0 rfl (by simp [base]) rfl rfl rfl (by kernel_rfl) ?_
    refine M.did (hput hx) hc ?_
    intro u2 h2 hk2
    rw [Frame.finish_at]
    refine Wn.range_end ?_
    refine Wn.seq (Wn.reg (by simp [base]) (by rw [hfz1]; kernel_rfl) ?_)
    go_wp2_with fail
    refine ⟨rfl, ?_⟩
    refine Wn.ret ?_
    refine Wn.back rfl rfl Try.func40 (results_tmp rfl _ _ _) ?_
    have := hn v F1 u2 C1 h2 hF1 (hk1.trans' hF1 (Keep.trans (fun b hb' => blk_set_ne (a := ⟨M.cb c, 1, none⟩) (fun e => hFc (by rw [← show b = M.cb c from e]; exact hb')) _) hk2)) hin
    rw [decide_eq_true rfl] at this
    exact this
  · simp only [if_neg hv] at hkeep
    refine acas65_miss hfz1 hb hv ?_
    rw [Frame.finish_at]
    refine Wn.range_end (Wn.cond rfl ?_)
    simp only [Bool.false_eq_true, if_false]
    refine Wn.skip (Wn.seq (Wn.open ?_))
    refine Wn.span1 0 3 5 (by simp [base]) (by decide) (by decide) (by rw [hfz1]; kernel_rfl) ?_
    simp only [List.take, List.drop]
    go_wp2_with fail
    refine ⟨rfl, ?_⟩
    refine Wn.callC 3 2 1 rfl (by simp [base]) rfl rfl rfl (by kernel_rfl) ?_
    refine aload66 hfz1 hb ?_
    rw [Frame.finish_at]
    refine Wn.span1 4 1 1 (by simp [base]) (by decide) (by decide) (by rw [hfz1]; kernel_rfl) ?_
    simp only [List.take, List.drop]
    go_wp2_with fail
    refine ⟨rfl, ?_⟩
    refine Wn.range_end ?_
    refine Wn.seq (Wn.open ?_)
    refine Wn.span1 0 3 4 (by simp [base]) (by decide) (by decide) (by rw [hfz1]; kernel_rfl) ?_
    simp only [List.take, List.drop]
    go_wp2_with fail
    refine ⟨rfl, ?_⟩
    refine Wn.callC 3 1 0 rfl (by simp [base]) rfl rfl rfl (by kernel_rfl) ?_
    refine M.did (hkeep trivial) hc ?_
    intro u2 h2 hk2
    rw [Frame.finish_at]
    refine Wn.range_end ?_
    refine Wn.seq (Wn.reg (by simp [base]) (by rw [hfz1]; kernel_rfl) ?_)
    go_wp2_with fail
    refine ⟨rfl, ?_⟩
    refine Wn.ret ?_
    refine Wn.back rfl rfl Try.func40 (results_tmp rfl _ _ _) ?_
    have := hn v F1 u2 C1 h2 hF1 (hk1.trans' hF1 hk2) hin
    rw [decide_eq_false hv] at this
    exact this

theorem id44 (hfz : C.fz = true) {b : Nat} {i v : Int} (hb : u.heap[b]? = some (.cells (cCells i v) 105 (0, 0))) (hn : Wn C (fr.finish (num i)) cs u) : Wn C (Frame.enter Try.prog 44 #[ptr b] .normal) (fr :: cs) u := by
  have hc0 : u.cell? ⟨b, 0, none⟩ = some (.int .i64 i) := (blk_cell hb 0).trans rfl
  refine Wn.body Try.func44 rfl ?_
  simp only [Try.ntmps44, List.size_toArray, List.length_cons, List.length_nil, Nat.reduceAdd, Nat.reduceSub, Array.replicate_succ, Array.replicate_zero, List.push_toArray, List.append_toArray, List.nil_append, List.cons_append]
  refine Wn.seq (Wn.reg (by simp [base]) (by rw [hfz]; kernel_rfl) ?_)
  go_wp2_with fail
  refine ⟨rfl, ?_⟩
  refine Wn.seq (Wn.reg (by simp [base]) (by rw [hfz]; kernel_rfl) ?_)
  go_wp2_with fail
  refine ⟨rfl, ?_⟩
  refine Wn.ret ?_
  refine Wn.back rfl rfl Try.func44 (results_tmp rfl _ _ _) ?_
  exact hn
end
end Go.Proofs.Ytoabkcalphpkhaa

/- Package latch: Down, Wait, by whoever goes. (Printed by gen_latch.py.) -/
namespace Go.Proofs.Ytoabkcalphpkhaa
open Go Go.Conc Go.RowKit
set_option linter.unusedVariables false
set_option linter.unusedSimpArgs false
set_option linter.unusedSectionVars false
set_option maxRecDepth 100000

/-- Down, so many rounds at most: the continuation is told the code. -/
def downP (c : Nat) (k : Int → Proc) : Nat → Proc
  | 0 => .bad
  | f + 1 => .step c 1 id fun v => if v = 0 then k 50 else .step c 4 (fun x => if x = v then wrap64 (v - 1) else x) fun x => if x = v then k 0 else downP c k f
/-- Wait. -/
def waitP (c : Nat) (k : Bool → Proc) : Nat → Proc
  | 0 => .bad
  | f + 1 => .step c 1 id fun v => if v = 0 then k true else .await c fun b => if b then waitP c k f else k false

section
variable {M : Mode} {F : Nat → Prop} {u : World} {C : Ctx Try.prog} {fr : Frame} {cs : List Frame} {c lb : Nat}
theorem down23 {k : Int → Proc} {f : Nat} (h : M.At (.go (downP c k f)) F u C) (hc : c < M.cn) (hl : M.ro lb = some (.cells #[ptr (M.cb c)] 90 (0, 0)))
    (hn : ∀ e F' u' C', M.At (.go (k e)) F' u' C' → (∀ b, F b → F' b) → Keep F u u' → Wn C' (fr.finish (num e)) cs u') : Wn C (Frame.enter Try.prog 23 #[ptr lb, ptr M.T] .normal) (fr :: cs) u := by
  have hfz := (M.plain h).1
  refine Wn.body Try.func23 rfl ?_
  simp only [Try.ntmps23, List.size_toArray, List.length_cons, List.length_nil, Nat.reduceAdd, Nat.reduceSub, Array.replicate_succ, Array.replicate_zero, List.push_toArray, List.append_toArray, List.nil_append, List.cons_append]
  refine Wn.seq (Wn.reg (by simp [base]) (by rw [hfz]; kernel_rfl) ?_)
  go_wp2_with fail
  refine ⟨rfl, ?_⟩
  refine Wn.block ?_
  refine Wn.loop_ind (f := f) (fun f a u1 C1 => ∃ F1, M.At (.go (downP c k f)) F1 u1 C1 ∧ (∀ b, F b → F1 b) ∧ Keep F u u1 ∧ ∃ x2 x3 x4 x5 x6 x7 x8 x9 x10 x11 x12 x13 x14 x15 x16 x17 x18 x19 x20 x21 x22, a = { tmps := #[ptr lb, ptr M.T, x2, x3, x4, x5, x6, x7, x8, x9, x10, x11, x12, x13, x14, x15, x16, x17, x18, x19, x20, x21, x22], defers := [] }) ?_ ?_ ⟨F, h, fun _ h => h, Keep.refl _ _, _, _, _, _, _, _, _, _, _, _, _, _, _, _, _, _, _, _, _, _, _, rfl⟩
  · rintro f ih a u1 C1 ⟨F1, h1, hF1, hk1, x2, x3, x4, x5, x6, x7, x8, x9, x10, x11, x12, x13, x14, x15, x16, x17, x18, x19, x20, x21, x22, rfl⟩
    simp only [downP] at h1
    have hfz1 := (M.plain h1).1
    have hlb : u1.heap[lb]? = some (.cells #[ptr (M.cb c)] 90 (0, 0)) := M.rof h1 _ _ hl
    have hl0 : u1.cell? ⟨lb, 0, none⟩ = some (.pointer (some ⟨M.cb c, 0, none⟩)) := (blk_cell hlb 0).trans rfl
    clear hlb
    refine Wn.block (Wn.seq (Wn.open ?_))
    refine Wn.span1 0 5 7 (by simp [base]) (by decide) (by decide) (by rw [hfz1]; kernel_rfl) ?_
    simp only [List.take, List.drop]
    go_wp2_with fail
    refine ⟨rfl, ?_⟩
    refine Wn.callC 5 2 1 rfl (by simp [base]) rfl rfl rfl (by kernel_rfl) ?_
    refine load43 h1 hc ?_
    intro v F2 u2 C2 h2 hF2 hk2 hin
    rw [Frame.finish_at]
    have hfz2 := (M.plain h2).1
    clear hl0
    refine Wn.span1 6 1 1 (by simp [base]) (by decide) (by decide) (by rw [hfz2]; kernel_rfl) ?_
    simp only [List.take, List.drop]
    go_wp2_with fail
    refine ⟨rfl, ?_⟩
    refine Wn.range_end ?_
    by_cases hv : v = 0
    · subst hv
      simp only [if_true] at h2
      refine Wn.seq (Wn.seq (Wn.reg (by simp [base]) (by rw [hfz2]; kernel_rfl) ?_))
      go_wp2_with fail
      refine ⟨rfl, ?_⟩
      refine Wn.cond rfl ?_
      simp only [if_true]
      refine Wn.seq (Wn.reg (by simp [base]) (by rw [hfz2]; kernel_rfl) ?_)
      go_wp2_with fail
      refine ⟨rfl, ?_⟩
      refine Wn.ret ?_
      refine Wn.back rfl rfl Try.func23 (results_tmp rfl _ _ _) ?_
      exact hn 50 F2 u2 C2 h2 (fun b hb => hF2 b (hF1 b hb)) (hk1.trans' hF1 hk2)
    · simp only [if_neg hv] at h2
      have d1 : decide (v = 0) = false := decide_eq_false hv
      have d2 : (v == 0) = false := beq_eq_false_iff_ne.mpr hv
      refine Wn.seq (Wn.seq (Wn.reg (by simp [base]) (by rw [hfz2]; kernel_rfl) ?_))
      go_wp2_with fail
      refine ⟨rfl, ?_⟩
      refine Wn.cond rfl ?_
      simp only [Bool.false_eq_true, if_false]
      have hlb2 : u2.heap[lb]? = some (.cells #[ptr (M.cb c)] 90 (0, 0)) := M.rof h2 _ _ hl
      have hl2 : u2.cell? ⟨lb, 0, none⟩ = some (.pointer (some ⟨M.cb c, 0, none⟩)) := (blk_cell hlb2 0).trans rfl
      clear hlb2 d1 d2
      refine Wn.skip (Wn.seq (Wn.open ?_))
      refine Wn.span1 0 8 9 (by simp [base]) (by decide) (by decide) (by rw [hfz2]; kernel_rfl) ?_
      simp only [List.take, List.drop]
      go_wp2_with fail
      refine ⟨rfl, ?_⟩
      refine Wn.callC 8 1 0 rfl (by simp [base]) rfl rfl rfl (by kernel_rfl) ?_
      refine cas40 (wrap64_in64 _) h2 hc ?_
      intro x F3 u3 C3 h3 hF3 hk3 hin3
      rw [Frame.finish_at]
      have hfz3 := (M.plain h3).1
      clear hl2
      refine Wn.range_end (Wn.cond rfl ?_)
      by_cases hx : x = v
      · subst hx
        simp only [if_true, decide_true] at h3 ⊢
        refine Wn.seq (Wn.reg (by simp [base]) (by rw [hfz3]; kernel_rfl) ?_)
        go_wp2_with fail
        refine ⟨rfl, ?_⟩
        refine Wn.ret ?_
        refine Wn.back rfl rfl Try.func23 (results_tmp rfl _ _ _) ?_
        exact hn 0 F3 u3 C3 h3 (fun b hb => hF3 b (hF2 b (hF1 b hb))) ((hk1.trans' hF1 hk2).trans' (fun b hb => hF2 b (hF1 b hb)) hk3)
      · simp only [if_neg hx] at h3
        rw [decide_eq_false hx]
        simp only [Bool.false_eq_true, if_false]
        refine Wn.skip (Wn.inBlock ?_)
        exact ih _ _ _ ⟨F3, h3, fun b hb => hF3 b (hF2 b (hF1 b hb)), (hk1.trans' hF1 hk2).trans' (fun b hb => hF2 b (hF1 b hb)) hk3, _, _, _, _, _, _, _, _, _, _, _, _, _, _, _, _, _, _, _, _, _, rfl⟩
  · rintro a u1 C1 ⟨F1, h1, _⟩
    exact M.nobad h1

theorem wait22 {k : Bool → Proc} {f : Nat} (h : M.At (.go (waitP c k f)) F u C) (hc : c < M.cn) (hl : M.ro lb = some (.cells #[ptr (M.cb c)] 90 (0, 0)))
    (hn : ∀ e F' u' C', M.At (.go (k e)) F' u' C' → (∀ b, F b → F' b) → Keep F u u' → Wn C' (fr.finish (.bool e)) cs u') : Wn C (Frame.enter Try.prog 22 #[ptr lb, ptr M.T] .normal) (fr :: cs) u := by
  have hfz := (M.plain h).1
  refine Wn.body Try.func22 rfl ?_
  simp only [Try.ntmps22, List.size_toArray, List.length_cons, List.length_nil, Nat.reduceAdd, Nat.reduceSub, Array.replicate_succ, Array.replicate_zero, List.push_toArray, List.append_toArray, List.nil_append, List.cons_append]
  refine Wn.seq (Wn.reg (by simp [base]) (by rw [hfz]; kernel_rfl) ?_)
  go_wp2_with fail
  refine ⟨rfl, ?_⟩
  refine Wn.seq (Wn.block ?_)
  refine Wn.loop_ind (f := f) (fun f a u1 C1 => ∃ F1, M.At (.go (waitP c k f)) F1 u1 C1 ∧ (∀ b, F b → F1 b) ∧ Keep F u u1 ∧ ∃ x2 x3 x4 x5 x6 x7 x8 x9 x10 x11 x12 x13 x14 x15 x16 x17 x18 x19, a = { tmps := #[ptr lb, ptr M.T, x2, x3, x4, x5, x6, x7, x8, x9, x10, x11, x12, x13, x14, x15, x16, x17, x18, x19], defers := [] }) ?_ ?_ ⟨F, h, fun _ h => h, Keep.refl _ _, _, _, _, _, _, _, _, _, _, _, _, _, _, _, _, _, _, _, rfl⟩
  · rintro f ih a u1 C1 ⟨F1, h1, hF1, hk1, x2, x3, x4, x5, x6, x7, x8, x9, x10, x11, x12, x13, x14, x15, x16, x17, x18, x19, rfl⟩
    simp only [waitP] at h1
    have hfz1 := (M.plain h1).1
    have hlb : u1.heap[lb]? = some (.cells #[ptr (M.cb c)] 90 (0, 0)) := M.rof h1 _ _ hl
    have hl0 : u1.cell? ⟨lb, 0, none⟩ = some (.pointer (some ⟨M.cb c, 0, none⟩)) := (blk_cell hlb 0).trans rfl
    clear hlb
    refine Wn.seq (Wn.seq (Wn.open ?_))
    refine Wn.span1 0 5 7 (by simp [base]) (by decide) (by decide) (by rw [hfz1]; kernel_rfl) ?_
    simp only [List.take, List.drop]
    go_wp2_with fail
    refine ⟨rfl, ?_⟩
    refine Wn.callC 5 2 1 rfl (by simp [base]) rfl rfl rfl (by kernel_rfl) ?_
    refine load43 h1 hc ?_
    intro v F2 u2 C2 h2 hF2 hk2 hin
    rw [Frame.finish_at]
    have hfz2 := (M.plain h2).1
    clear hl0
    by_cases hv : v = 0
    · subst hv
      simp only [if_true] at h2
      refine Wn.span1 6 1 1 (by simp [base]) (by decide) (by decide) (by rw [hfz2]; kernel_rfl) ?_
      simp only [List.take, List.drop]
      go_wp2_with fail
      refine ⟨rfl, ?_⟩
      refine Wn.range_end (Wn.cond rfl ?_)
      simp only [Bool.false_eq_true, if_false]
      refine Wn.exit rfl ?_
      refine Wn.seq (Wn.reg (by simp [base]) (by rw [hfz2]; kernel_rfl) ?_)
      go_wp2_with fail
      refine ⟨rfl, ?_⟩
      refine Wn.ret ?_
      refine Wn.back rfl rfl Try.func22 (results_tmp rfl _ _ _) ?_
      exact hn true F2 u2 C2 h2 (fun b hb => hF2 b (hF1 b hb)) (hk1.trans' hF1 hk2)
    · simp only [if_neg hv] at h2
      have d1 : decide (v = 0) = false := decide_eq_false hv
      have d2 : (v == 0) = false := beq_eq_false_iff_ne.mpr hv
      have d3 : (v != 0) = true := bne_iff_ne.mpr hv
      refine Wn.span1 6 1 1 (by simp [base]) (by decide) (by decide) (by rw [hfz2]; kernel_rfl) ?_
      simp only [List.take, List.drop]
      go_wp2_with fail
      refine ⟨rfl, ?_⟩
      refine Wn.range_end (Wn.cond rfl ?_)
      simp only [if_true]
      clear d1 d2 d3
      have hlb2 : u2.heap[lb]? = some (.cells #[ptr (M.cb c)] 90 (0, 0)) := M.rof h2 _ _ hl
      have hl2 : u2.cell? ⟨lb, 0, none⟩ = some (.pointer (some ⟨M.cb c, 0, none⟩)) := (blk_cell hlb2 0).trans rfl
      obtain ⟨v2, hb2, _⟩ := M.cell h2 hc
      clear hlb2
      refine Wn.skip (Wn.block ?_)
      refine Wn.seq (Wn.open ?_)
      refine Wn.span1 0 5 8 (by simp [base]) (by decide) (by decide) (by rw [hfz2]; kernel_rfl) ?_
      simp only [List.take, List.drop]
      go_wp2_with fail
      refine ⟨rfl, ?_⟩
      refine Wn.callC 5 3 2 rfl (by simp [base]) rfl rfl rfl (by kernel_rfl) ?_
      refine id44 hfz2 hb2 ?_
      rw [Frame.finish_at]
      clear hb2
      refine Wn.callC 6 2 1 rfl (by simp [base]) rfl rfl rfl (by kernel_rfl) ?_
      refine M.await h2 ?_
      intro e F3 u3 C3 h3 hF3 hk3
      rw [Frame.finish_at]
      have hfz3 := (M.plain h3).1
      clear hl2
      refine Wn.span1 7 1 1 (by simp [base]) (by decide) (by decide) (by rw [hfz3]; kernel_rfl) ?_
      simp only [List.take, List.drop]
      go_wp2_with fail
      refine ⟨rfl, ?_⟩
      refine Wn.range_end (Wn.cond rfl ?_)
      cases e with
      | true =>
        simp only [if_true, Bool.not_true, Bool.false_eq_true, if_false] at h3 ⊢
        refine Wn.skip (Wn.inBlock ?_)
        exact ih _ _ _ ⟨F3, h3, fun b hb => hF3 b (hF2 b (hF1 b hb)), (hk1.trans' hF1 hk2).trans' (fun b hb => hF2 b (hF1 b hb)) hk3, _, _, _, _, _, _, _, _, _, _, _, _, _, _, _, _, _, _, rfl⟩
      | false =>
        simp only [Bool.false_eq_true, if_false, Bool.not_false, if_true] at h3 ⊢
        refine Wn.seq (Wn.reg (by simp [base]) (by rw [hfz3]; kernel_rfl) ?_)
        go_wp2_with fail
        refine ⟨rfl, ?_⟩
        refine Wn.ret ?_
        refine Wn.back rfl rfl Try.func22 (results_tmp rfl _ _ _) ?_
        exact hn false F3 u3 C3 h3 (fun b hb => hF3 b (hF2 b (hF1 b hb))) ((hk1.trans' hF1 hk2).trans' (fun b hb => hF2 b (hF1 b hb)) hk3)
  · rintro a u1 C1 ⟨F1, h1, _⟩
    exact M.nobad h1
end
end Go.Proofs.Ytoabkcalphpkhaa

/- latch.Play's call of a script. (Printed by gen_latchdo.py.) -/
namespace Go.Proofs.Ytoabkcalphpkhaa
open Go Go.Conc Go.RowKit
set_option linter.unusedVariables false
set_option linter.unusedSimpArgs false
set_option linter.unusedSectionVars false
set_option maxRecDepth 100000

def callV (c : Cal) : Value := .agg #[num c.op, num c.a, num c.b, num c.c]
def ansV (a : Ans) : Value := .agg #[num a.code, num a.val]

theorem Mode.one (M : Mode) {p : Stat} {F : Nat → Prop} {u : World} {C : Ctx Try.prog} (h : M.At p F u C) (o1 : Obj) :
    ∃ F1, M.At p F1 (u.alloc o1) C ∧ (∀ b, F b → F1 b) ∧ Keep F u (u.alloc o1) ∧ F1 u.heap.size ∧ (u.alloc o1).heap[u.heap.size]? = some o1 :=
  ⟨_, M.alloc h o1, fun b hb => .inl hb, fun b hb => heap_alloc (M.lt h b hb), .inr rfl, heap_alloc_new u o1⟩
theorem Mode.two (M : Mode) {p : Stat} {F : Nat → Prop} {u : World} {C : Ctx Try.prog} (h : M.At p F u C) (o1 o2 : Obj) :
    ∃ F1, M.At p F1 ((u.alloc o1).alloc o2) C ∧ (∀ b, F b → F1 b) ∧ Keep F u ((u.alloc o1).alloc o2) ∧ F1 u.heap.size ∧ F1 (u.heap.size + 1) ∧ ((u.alloc o1).alloc o2).heap[u.heap.size]? = some o1 ∧ ((u.alloc o1).alloc o2).heap[u.heap.size + 1]? = some o2 := by
  have h1 := M.alloc h o1
  have h2 := M.alloc h1 o2
  have hs : (u.alloc o1).heap.size = u.heap.size + 1 := Array.size_push ..
  exact ⟨_, h2, fun b hb => .inl (.inl hb), fun b hb => (heap_alloc (M.lt h1 b (.inl hb))).trans (heap_alloc (M.lt h b hb)), .inl (.inr rfl), .inr hs.symm, heap_alloc2_old u o1 o2, heap_alloc2_new u o1 o2⟩
/-- An answer is laid into its block. -/
theorem Mode.answer (M : Mode) {p : Stat} {F : Nat → Prop} {u : World} {C : Ctx Try.prog} (h : M.At p F u C) {r : Nat} (hF : F r) {z0 z1 : Value} (hr : u.heap[r]? = some (.cells #[z0, z1] 34 (0, 0))) (a b : Int) :
    M.At p F ((u.setCell ⟨r, 0, none⟩ (num a)).setCell ⟨r, 1, none⟩ (num b)) C ∧ ((u.setCell ⟨r, 0, none⟩ (num a)).setCell ⟨r, 1, none⟩ (num b)).heap[r]? = some (.cells #[num a, num b] 34 (0, 0)) ∧ ∀ G : Nat → Prop, ¬ G r → Keep G u ((u.setCell ⟨r, 0, none⟩ (num a)).setCell ⟨r, 1, none⟩ (num b)) := by
  refine ⟨M.set (M.set h _ hF) _ hF, ?_, fun G hG b' hb => ?_⟩
  · rw [blk_set (blk_set hr 0 _) 1 _]
    rfl
  · have hne : b' ≠ r := fun e => hG (e ▸ hb)
    rw [blk_set_ne (a := ⟨r, 1, none⟩) hne, blk_set_ne (a := ⟨r, 0, none⟩) hne]
theorem info34 : (Try.prog.info? 34).map (·.size) = some 2 := by kernel_rfl
theorem res34 {fn : Func} {p : Tmp} (h : fn.results = #[.cell p 34]) {tmps : Array Value} {w : World} {r : Nat} {a : Ans} (hp : tmps.getD p undef = ptr r) (hr : w.heap[r]? = some (.cells #[num a.code, num a.val] 34 (0, 0))) :
    (results fn tmps).run Try.prog w = .ok (ansV a) w := results_cell_row h tmps w r 34 _ (0, 0) _ hp hr Try.underlying34 rfl info34

/-- A call of a script: so many rounds at most. -/
def doLatch (f : Nat) (c : Cal) (k : Ans → Proc) : Proc :=
  if c.op = 1 then downP 0 (fun e => k ⟨e, 0⟩) f else if c.op = 2 then waitP 0 (fun b => if b then k ⟨0, 0⟩ else k ⟨4, 0⟩) f else k ⟨1, 0⟩

section
variable {M : Mode} {F : Nat → Prop} {u : World} {C : Ctx Try.prog} {fr : Frame} {cs : List Frame} {lb bx : Nat}
theorem do50 {c : Cal} {k : Ans → Proc} {f : Nat} (h : M.At (.go (doLatch f c k)) F u C) (hc : 0 < M.cn) (hl : M.ro lb = some (.cells #[ptr (M.cb 0)] 90 (0, 0))) (hx : M.ro bx = some (.cells #[ptr lb] 43 (0, 0)))
    (hn : ∀ a F' u' C', M.At (.go (k a)) F' u' C' → (∀ b, F b → F' b) → Keep F u u' → Wn C' (fr.finish (ansV a)) cs u') : Wn C (Frame.enter Try.prog 50 #[ptr M.T, callV c, ptr bx] .normal) (fr :: cs) u := by
  have hfz := (M.plain h).1
  have hlt := M.lt h
  refine Wn.body Try.func50 rfl ?_
  simp only [Try.ntmps50, List.size_toArray, List.length_cons, List.length_nil, Nat.reduceAdd, Nat.reduceSub, Array.replicate_succ, Array.replicate_zero, List.push_toArray, List.append_toArray, List.nil_append, List.cons_append, callV]
  refine Wn.seq (Wn.reg (by simp [base]) (by rw [hfz]; kernel_rfl) ?_)
  go_wp2_with fail
  refine ⟨rfl, ?_⟩
  obtain ⟨F1, h1, hF1, hk1, hFp, hFr, hbp, hbr⟩ := M.two h (.cells #[num c.op, num c.a, num c.b, num c.c] 36 (0, 0)) (.cells #[num 0, num 0] 34 (0, 0))
  have hnr : ¬ F (u.heap.size + 1) := fun e => by have := hlt _ e; omega
  generalize hu1 : (u.alloc (.cells #[num c.op, num c.a, num c.b, num c.c] 36 (0, 0))).alloc (.cells #[num 0, num 0] 34 (0, 0)) = u1 at h1 hk1 hbp hbr ⊢
  generalize u.heap.size + 1 = r at hFr hbr hnr ⊢
  generalize u.heap.size = pb at hFp hbp ⊢
  have p0 : u1.cell? ⟨pb, 0, none⟩ = some (.int .i64 c.op) := (blk_cell hbp 0).trans rfl
  have hx1 : u1.cell? ⟨bx, 0, none⟩ = some (.pointer (some ⟨lb, 0, none⟩)) := (blk_cell (M.rof h1 _ _ hx) 0).trans rfl
  clear hu1 hfz
  have hfz := (M.plain h1).1
  refine Wn.seq (Wn.seq (Wn.reg (by simp [base]) (by rw [hfz]; kernel_rfl) ?_))
  go_wp2_with fail
  refine ⟨rfl, ?_⟩
  by_cases e1 : c.op = 1
  · have hdo : doLatch f c k = downP 0 (fun e => k ⟨e, 0⟩) f := by unfold doLatch; rw [if_pos e1]
    rw [hdo] at h1
    have d1 : (c.op == 1) = true := beq_iff_eq.mpr e1
    have d1' : decide (c.op = 1) = true := decide_eq_true e1
    refine Wn.block (Wn.seq (Wn.reg (by simp [base]) (by rw [hfz]; kernel_rfl) ?_))
    go_wp2_with fail
    refine ⟨rfl, ?_⟩
    refine Wn.cond rfl ?_
    simp only [if_true]
    clear d1 d1' e1
    refine Wn.seq (Wn.open ?_)
    refine Wn.span1 0 2 5 (by simp [base]) (by decide) (by decide) (by rw [hfz]; kernel_rfl) ?_
    simp only [List.take, List.drop]
    go_wp2_with fail
    refine ⟨rfl, ?_⟩
    refine Wn.callC 2 3 2 rfl (by simp [base]) rfl rfl rfl (by kernel_rfl) ?_
    refine down23 h1 hc hl ?_
    intro e F2 u2 C2 h2 hF2 hk2
    rw [Frame.finish_at]
    have hfz2 := (M.plain h2).1
    have hbr' : u2.heap[r]? = some (.cells #[num 0, num 0] 34 (0, 0)) := (hk2 r hFr).trans hbr
    clear p0 hx1
    have r0 : u2.cell? ⟨r, 0, none⟩ = some (.int .i64 0) := (blk_cell hbr' 0).trans rfl
    have r1 : u2.cell? ⟨r, 1, none⟩ = some (.int .i64 0) := (blk_cell hbr' 1).trans rfl
    have z0 : u2.frozen? ⟨r, 0, none⟩ = false := blk_thawed hbr' 0
    have z1 : u2.frozen? ⟨r, 1, none⟩ = false := blk_thawed hbr' 1
    refine Wn.span1 3 2 2 (by simp [base]) (by decide) (by decide) (by rw [hfz2]; kernel_rfl) ?_
    simp only [List.take, List.drop]
    go_wp2_with fail
    refine ⟨rfl, ?_⟩
    refine Wn.range_end ?_
    obtain ⟨h9, hb9, hk9⟩ := M.answer h2 (hF2 _ hFr) hbr' e 0
    refine Wn.ret (Wn.back rfl rfl Try.func50 (res34 (a := ⟨e, 0⟩) rfl rfl hb9) ?_)
    exact hn _ _ _ C2 h9 (fun b hb => hF2 b (hF1 b hb)) ((hk1.trans' hF1 hk2).trans (hk9 F hnr))
  · have d1 : (c.op == 1) = false := beq_eq_false_iff_ne.mpr e1
    have d1' : decide (c.op = 1) = false := decide_eq_false e1
    refine Wn.block (Wn.seq (Wn.reg (by simp [base]) (by rw [hfz]; kernel_rfl) ?_))
    go_wp2_with fail
    refine ⟨rfl, ?_⟩
    refine Wn.cond rfl ?_
    simp only [Bool.false_eq_true, if_false]
    clear d1 d1'
    by_cases e2 : c.op = 2
    · have hdo : doLatch f c k = waitP 0 (fun b => if b then k ⟨0, 0⟩ else k ⟨4, 0⟩) f := by unfold doLatch; rw [if_neg e1, if_pos e2]
      rw [hdo] at h1
      have d1 : (c.op == 2) = true := beq_iff_eq.mpr e2
      have d1' : decide (c.op = 2) = true := decide_eq_true e2
      refine Wn.seq (Wn.reg (by simp [base]) (by rw [hfz]; kernel_rfl) ?_)
      go_wp2_with fail
      refine ⟨rfl, ?_⟩
      refine Wn.cond rfl ?_
      simp only [if_true]
      clear d1 d1' e1 e2
      refine Wn.seq (Wn.seq (Wn.open ?_))
      refine Wn.span1 0 2 4 (by simp [base]) (by decide) (by decide) (by rw [hfz]; kernel_rfl) ?_
      simp only [List.take, List.drop]
      go_wp2_with fail
      refine ⟨rfl, ?_⟩
      refine Wn.callC 2 2 1 rfl (by simp [base]) rfl rfl rfl (by kernel_rfl) ?_
      refine wait22 h1 hc hl ?_
      intro e F2 u2 C2 h2 hF2 hk2
      rw [Frame.finish_at]
      have hfz2 := (M.plain h2).1
      have hbr' : u2.heap[r]? = some (.cells #[num 0, num 0] 34 (0, 0)) := (hk2 r hFr).trans hbr
      clear p0 hx1
      have r0 : u2.cell? ⟨r, 0, none⟩ = some (.int .i64 0) := (blk_cell hbr' 0).trans rfl
      have r1 : u2.cell? ⟨r, 1, none⟩ = some (.int .i64 0) := (blk_cell hbr' 1).trans rfl
      have z0 : u2.frozen? ⟨r, 0, none⟩ = false := blk_thawed hbr' 0
      have z1 : u2.frozen? ⟨r, 1, none⟩ = false := blk_thawed hbr' 1
      refine Wn.span1 3 1 1 (by simp [base]) (by decide) (by decide) (by rw [hfz2]; kernel_rfl) ?_
      simp only [List.take, List.drop]
      go_wp2_with fail
      refine ⟨rfl, ?_⟩
      refine Wn.range_end (Wn.cond rfl ?_)
      cases e with
      | true =>
        simp only [Bool.not_true, Bool.false_eq_true, if_false, if_true] at h2 ⊢
        refine Wn.skip (Wn.seq (Wn.reg (by simp [base]) (by rw [hfz2]; kernel_rfl) ?_))
        go_wp2_with fail
        refine ⟨rfl, ?_⟩
        obtain ⟨h9, hb9, hk9⟩ := M.answer h2 (hF2 _ hFr) hbr' 0 0
        refine Wn.ret (Wn.back rfl rfl Try.func50 (res34 (a := ⟨0, 0⟩) rfl rfl hb9) ?_)
        exact hn _ _ _ C2 h9 (fun b hb => hF2 b (hF1 b hb)) ((hk1.trans' hF1 hk2).trans (hk9 F hnr))
      | false =>
        simp only [Bool.not_false, Bool.false_eq_true, if_false, if_true] at h2 ⊢
        refine Wn.seq (Wn.reg (by simp [base]) (by rw [hfz2]; kernel_rfl) ?_)
        go_wp2_with fail
        refine ⟨rfl, ?_⟩
        obtain ⟨h9, hb9, hk9⟩ := M.answer h2 (hF2 _ hFr) hbr' 4 0
        refine Wn.ret (Wn.back rfl rfl Try.func50 (res34 (a := ⟨4, 0⟩) rfl rfl hb9) ?_)
        exact hn _ _ _ C2 h9 (fun b hb => hF2 b (hF1 b hb)) ((hk1.trans' hF1 hk2).trans (hk9 F hnr))
    · have hdo : doLatch f c k = k ⟨1, 0⟩ := by unfold doLatch; rw [if_neg e1, if_neg e2]
      rw [hdo] at h1
      have d1 : (c.op == 2) = false := beq_eq_false_iff_ne.mpr e2
      have d1' : decide (c.op = 2) = false := decide_eq_false e2
      refine Wn.seq (Wn.reg (by simp [base]) (by rw [hfz]; kernel_rfl) ?_)
      go_wp2_with fail
      refine ⟨rfl, ?_⟩
      refine Wn.cond rfl ?_
      simp only [Bool.false_eq_true, if_false]
      clear d1 d1' e1 e2 p0 hx1
      have hbr' := hbr
      have r0 : u1.cell? ⟨r, 0, none⟩ = some (.int .i64 0) := (blk_cell hbr' 0).trans rfl
      have r1 : u1.cell? ⟨r, 1, none⟩ = some (.int .i64 0) := (blk_cell hbr' 1).trans rfl
      have z0 : u1.frozen? ⟨r, 0, none⟩ = false := blk_thawed hbr' 0
      have z1 : u1.frozen? ⟨r, 1, none⟩ = false := blk_thawed hbr' 1
      refine Wn.skip (Wn.inBlock ?_)
      refine Wn.seq (Wn.reg (by simp [base]) (by rw [hfz]; kernel_rfl) ?_)
      go_wp2_with fail
      refine ⟨rfl, ?_⟩
      obtain ⟨h9, hb9, hk9⟩ := M.answer h1 hFr hbr' 1 0
      refine Wn.ret (Wn.back rfl rfl Try.func50 (res34 (a := ⟨1, 0⟩) rfl rfl hb9) ?_)
      exact hn _ _ _ C h9 hF1 (hk1.trans (hk9 F hnr))
end
end Go.Proofs.Ytoabkcalphpkhaa

/- Merged: Body75. -/
import Derived.Test.YtoabkcalphpkhaaN13
import Derived.Test.YtoabkcalphpkhaaN14
/- play.Run's body of a thread: its script is carried out, its answers are laid into its place. -/
namespace Go.Proofs.Ytoabkcalphpkhaa
open Go Go.Conc Go.RowKit
open Go.Proofs.YtoabkcalphpkhaaW.PrintWords
set_option linter.unusedVariables false
set_option linter.unusedSimpArgs false
set_option linter.unusedSectionVars false
set_option maxRecDepth 100000

section
variable {L : Lay} {Q : PQ} {n i T g : Nat} {p : Stat} {F F' : Nat → Prop} {u u' w1 : World} {ts : List (Nat × Nat)} {tc : Nat → TC} {s : Sys} {vth vtr v' : Value} {oc : Array Value} {pks : List Park} {recs : Nat → Goroutine} {r0 : Goroutine} {K : Sys → List Park → Prop} {Cl : Nat → Nat → Option Obj} {C : Ctx Try.prog}

/-- A place of the row of answers turns. -/
theorem Rep.outcell (h : Rep L ts tc s vth vtr oc u) (j : Nat) (v : Value) : Rep L ts tc s vth vtr (oc.setIfInBounds j v) (u.setCell ⟨L.out, j, none⟩ v) := by
  have ho : ∀ k, k ≠ L.out → (u.setCell ⟨L.out, j, none⟩ v).heap[k]? = u.heap[k]? := fun k hk => blk_set_ne (a := ⟨L.out, j, none⟩) hk _
  have cells : ∀ {k t : Nat} {ca : Array Value} {z : Nat × Nat}, u.heap[k]? = some (.cells ca t z) → t ≠ 31 → (u.setCell ⟨L.out, j, none⟩ v).heap[k]? = u.heap[k]? := fun hk ht => ho _ (ne_of_ty hk h.o ht)
  have chans : ∀ {k : Nat}, open0 u k → open0 (u.setCell ⟨L.out, j, none⟩ v) k := fun hk => open0_setCell hk
  refine { os := h.os, outp := h.outp, w := (cells h.w (by decide)).trans h.w, t := fun j q hq => (cells (h.t j q hq) (by decide)).trans (h.t j q hq), c := fun k b' hk => (cells (h.c k b' hk) (by decide)).trans (h.c k b' hk), th := Row.move flat_kP h.th fun k hk => ?_,
           tr := Row.move flat_k40 h.tr fun k hk => ?_, ch := Row.move flat_kI h.ch fun k hk => ?_, o := blk_set h.o j v, back := chans h.back, goes := fun q hq => chans (h.goes q hq),
           nlen := h.nlen, vlen := h.vlen, clen := h.clen, olen := by rw [Array.size_setIfInBounds]; exact h.olen, nodup := h.nodup, in64 := h.in64, chb := h.chb }
  · obtain ⟨c', h'⟩ := own_ty h.th hk; exact cells h' (by decide)
  · obtain ⟨c', h'⟩ := own_ty h.tr hk; exact cells h' (by decide)
  · obtain ⟨c', h'⟩ := own_ty h.ch hk; exact cells h' (by decide)
theorem Held.outcell (h : Held L Q ts tc s vth vtr oc pks recs Cl F u) {j : Nat} (v : Value) (hj : ∀ out, pks[j]? ≠ some (.ended out)) : Held L Q ts tc s vth vtr (oc.setIfInBounds j v) pks recs Cl F (u.setCell ⟨L.out, j, none⟩ v) := by
  refine ⟨h.lens, h.rep.outcell j v, h.heaps.step (fun b hs => .inl hs) (fun b h1 h2 h3 => ?_) (by rw [size_set]; exact Nat.le_refl _), h.ro, h.idle, h.N0, h.ton, fun k q pk hq hpk => ?_⟩
  · exact blk_set_ne (a := ⟨L.out, j, none⟩) (fun e => h1 (.inr (.inr (.inr (.inl e))))) _
  · obtain ⟨h1, h2, h3⟩ := h.par k q pk hq hpk
    refine ⟨h1, h2, fun out e => ?_⟩
    obtain ⟨v0, hv, hr⟩ := h3 out e
    refine ⟨v0, ?_, hr⟩
    rw [Array.getElem?_setIfInBounds_ne (fun e' => hj out (by rw [e', ← e]; exact hpk))]
    exact hv

/-- The thread's answers lie at its place; nothing is left but to end. -/
def WRet (L : Lay) (i T : Nat) (out : List Ans) (F : Nat → Prop) (u : World) (C : Ctx Try.prog) : Prop :=
  ∃ n g ts tc s vth vtr oc pks recs r0 K Cl v, ∃ h : Going L (Qn L n) i T g (.go (.ret out)) F u ts tc s vth vtr oc pks recs r0 K Cl, C = ctxOf L ts pks recs (some r0) (L.N0 + i) h.held.hW ∧ oc[i]? = some v ∧ kA.R 34 u 0 F v out
theorem wret_of {out : List Ans} {v : Value} (h : AtF L (Qn L n) i T (.go (.ret out)) F u C) (hR : kA.R 34 u 0 F v out) : WRet L i T out F (u.setCell ⟨L.out, i, none⟩ v) C := by
  obtain ⟨g, ts, tc, s, vth, vtr, oc, pks, recs, r0, K, Cl, h, rfl⟩ := h
  have hil : i < oc.size := by
    have h1 := (List.getElem?_eq_some_iff.1 h.me).1
    have h2 := h.held.ton
    have h3 := h.held.rep.olen
    omega
  refine ⟨n, g, ts, tc, s, vth, vtr, _, pks, recs, r0, K, Cl, v, ⟨h.held.outcell v (fun out e => by rw [h.mine] at e; cases e), h.me, h.mine, h.free, h.nums, h.main, h.ok, h.go⟩, rfl, ?_, ?_⟩
  · rw [Array.getElem?_setIfInBounds_self_of_lt hil]
  · refine R_flat flat_kA hR (fun k hk => ?_) hR.1
    exact blk_set_ne (a := ⟨L.out, i, none⟩) (fun e => (h.held.heaps.fr k (hR.1 k hk)).2.1 (by rw [show k = L.out from e]; exact .inr (.inr (.inr (.inl rfl))))) _

theorem WAt.outblk (h : AtF L (Qn L n) i T p F u C) : ∃ oc, u.heap[L.out]? = some (.cells oc 31 (0, 0)) ∧ oc.size = L.on ∧ i < L.on := by
  obtain ⟨g, ts, tc, s, vth, vtr, oc, pks, recs, r0, K, Cl, h, rfl⟩ := h
  have h1 := (List.getElem?_eq_some_iff.1 h.me).1
  have h2 := h.held.ton
  exact ⟨oc, h.held.rep.o, h.held.rep.olen, by omega⟩

theorem out_free (h : AtF L (Qn L n) i T p F u C) : ¬ F L.out := by
  obtain ⟨g, ts, tc, s, vth, vtr, oc, pks, recs, r0, K, Cl, h, rfl⟩ := h
  exact fun hF => (h.held.heaps.fr _ hF).2.1 (.inr (.inr (.inr (.inl rfl))))

def cnt (l : List Bool) : Nat := l.countP (!·)

set_option maxHeartbeats 4000000 in
theorem body75 {fid : FuncId} {caps : Array Value} {doP : Cal → (Ans → Proc) → Proc} (hdo : DoOK (worldMode L i T) fid caps doP) (hbd : bodied Try.prog fid = true) {A : Option Addr} {cp : Nat} {l : List Cal} (hlen : l.length ≤ 64) (hin : ∀ c ∈ l, CalIn c)
    (hs : ∀ u, roOn (worldMode L i T) u → Scr u A l) {lb db ob ib : Nat} {zl zd zo zi : Nat × Nat} (hlb : L.ro lb = some (.cells #[.slice A l.length cp] 32 zl)) (hdb : L.ro db = some (.cells #[.func (.func fid) #[] caps] 82 zd))
    (hob : L.ro ob = some (.cells #[.slice (some ⟨L.out, 0, none⟩) L.on L.on] 27 zo)) (hib : L.ro ib = some (.cells #[num i] 3 zi))
    (h : AtF L (Qn L n) i T (.go (oneP doP 0 l [])) F u C) {fr : Frame} {cs : List Frame}
    (hn : ∀ out F' u' C', WRet L i T out F' u' C' → (∀ b, F b → F' b) → Keep F u u' → Wn C' (fr.finish (.tuple #[])) cs u') :
    Wn C (Frame.enter Try.prog 75 #[ptr T, ptr lb, ptr db, ptr ob, ptr ib] .normal) (fr :: cs) u := by
  have key : ∀ {p F u C}, (worldMode L i T).At p F u C → u.cell? ⟨lb, 0, none⟩ = some (.slice A l.length cp) ∧ u.cell? ⟨db, 0, none⟩ = some (.func (.func fid) #[] caps) ∧ u.cell? ⟨ob, 0, none⟩ = some (.slice (some ⟨L.out, 0, none⟩) L.on L.on) ∧ u.cell? ⟨ib, 0, none⟩ = some (.int .i64 i) ∧ C.fz = true ∧ C.S = S0 := fun h =>
    ⟨(blk_cell ((worldMode L i T).rof h _ _ hlb) 0).trans rfl, (blk_cell ((worldMode L i T).rof h _ _ hdb) 0).trans rfl, (blk_cell ((worldMode L i T).rof h _ _ hob) 0).trans rfl, (blk_cell ((worldMode L i T).rof h _ _ hib) 0).trans rfl, (worldMode L i T).plain h⟩
  have hio : i < L.on := by obtain ⟨oc, _, _, h3⟩ := WAt.outblk h; exact h3
  refine Wn.body Try.func75 rfl ?_
  simp only [Try.ntmps75, List.size_toArray, List.length_cons, List.length_nil, Nat.reduceAdd, Nat.reduceSub, Array.replicate_succ, Array.replicate_zero, List.push_toArray, List.append_toArray, List.nil_append, List.cons_append]
  refine Wn.draw_any (J := fun n listed a u1 C1 => ∃ b0 b1 b2 b3 b4 b5 b6 b7 x5 x6 x7 x8 x9 x10 x11 x12, listed = #[b0, b1, b2, b3, b4, b5, b6, b7] ∧ n = cnt [b0, b1, b2, b3, b4, b5, b6, b7] ∧ a = { tmps := #[ptr T, ptr lb, ptr db, ptr ob, ptr ib, x5, x6, x7, x8, x9, x10, x11, x12], defers := [] } ∧
      (b0 = true → x6 = .slice (some ⟨L.out, 0, none⟩) L.on L.on) ∧ (b1 = true → x7 = num i) ∧ (b2 = true → x8 = ptr T) ∧ (b3 = true → x9 = .slice A l.length cp) ∧ (b4 = true → x10 = .func (.func fid) #[] caps) ∧ (b6 = true → b5 = true ∧ (b0 = true ∧ b1 = true ∧ b2 = true ∧ b3 = true ∧ b4 = true) ∧ x12 = .pointer (some ⟨L.out, i, none⟩)) ∧ (b7 = true → b6 = true) ∧
      ∃ F1, (∀ b, F b → F1 b) ∧ Keep F u u1 ∧ (if b7 then ∃ out, WRet L i T out F1 u1 C1 else if b5 then ∃ m out v, AtF L (Qn L m) i T (.go (.ret out)) F1 u1 C1 ∧ kA.R 34 u1 0 F1 v out ∧ x11 = v else ∃ m, AtF L (Qn L m) i T (.go (oneP doP 0 l [])) F1 u1 C1)) (by kernel_rfl) ?_ ?_ ?_ ?_
  · exact ⟨false, false, false, false, false, false, false, false, undef, undef, undef, undef, undef, undef, undef, undef, rfl, rfl, rfl, by simp, by simp, by simp, by simp, by simp, by simp, by simp, F, fun _ h => h, Keep.refl _ _, n, h⟩
  · rintro n listed a u1 C1 ⟨b0, b1, b2, b3, b4, b5, b6, b7, _, _, _, _, _, _, _, _, rfl, hcnt, _⟩
    refine ready_live (by kernel_rfl) ?_ ?_
    · refine Classical.byContradiction fun hno => ?_
      have hall : ∀ i, i < 8 → (#[b0, b1, b2, b3, b4, b5, b6, b7] : Array Bool).getD i true = true := fun i hi => by
        cases hc : (#[b0, b1, b2, b3, b4, b5, b6, b7] : Array Bool).getD i true with
        | true => rfl
        | false => exact absurd ⟨i, hi, hc⟩ hno
      have a0 : b0 = true := hall 0 (by decide)
      have a1 : b1 = true := hall 1 (by decide)
      have a2 : b2 = true := hall 2 (by decide)
      have a3 : b3 = true := hall 3 (by decide)
      have a4 : b4 = true := hall 4 (by decide)
      have a5 : b5 = true := hall 5 (by decide)
      have a6 : b6 = true := hall 6 (by decide)
      have a7 : b7 = true := hall 7 (by decide)
      subst a0 a1 a2 a3 a4 a5 a6 a7
      simp [cnt] at hcnt
    · intro i hi
      have hi' : i < 8 := hi
      rw [Array.getD_eq_getD_getElem?, Array.getD_eq_getD_getElem?, Array.getElem?_eq_getElem (show i < (#[b0, b1, b2, b3, b4, b5, b6, b7] : Array Bool).size from hi')]
      rfl
  · rintro n listed a u1 C1 ⟨b0, b1, b2, b3, b4, b5, b6, b7, x5, x6, x7, x8, x9, x10, x11, x12, rfl, hcnt, rfl, g0, g1, g2, g3, g4, g6, g7, F1, hF1, hkF, hst⟩ j hj rest hK
    have hj2 := (List.mem_filter.1 hj).2
    have hj1 : j < 8 := List.mem_range.1 (List.mem_filter.1 hj).1
    clear hj
    have e7 : b7 = false := by
      cases e : b7 with
      | false => rfl
      | true =>
        exfalso
        have h6 := g7 e
        obtain ⟨h5, ⟨h0, h1, h2, h3, h4⟩, _⟩ := g6 h6
        rw [e, h6, h5, h0, h1, h2, h3, h4] at hcnt
        simp [cnt] at hcnt
    subst e7
    simp only [Bool.false_eq_true, if_false] at hst
    have hfacts : u1.cell? ⟨lb, 0, none⟩ = some (.slice A l.length cp) ∧ u1.cell? ⟨db, 0, none⟩ = some (.func (.func fid) #[] caps) ∧ u1.cell? ⟨ob, 0, none⟩ = some (.slice (some ⟨L.out, 0, none⟩) L.on L.on) ∧ u1.cell? ⟨ib, 0, none⟩ = some (.int .i64 i) ∧ C1.fz = true ∧ C1.S = S0 := by
      cases b5 with
      | true => obtain ⟨m, out, v, hat, _⟩ := hst; exact key ⟨m, hat⟩
      | false => obtain ⟨m, hat⟩ := hst; exact key ⟨m, hat⟩
    obtain ⟨q1, q2, q3, q4, hfz, hS⟩ := hfacts
    have hst' : (if false = true then ∃ out, WRet L i T out F1 u1 C1 else if b5 = true then ∃ m out v, AtF L (Qn L m) i T (.go (.ret out)) F1 u1 C1 ∧ kA.R 34 u1 0 F1 v out ∧ x11 = v else ∃ m, AtF L (Qn L m) i T (.go (oneP doP 0 l [])) F1 u1 C1) := by simpa using hst
    rcases (show j = 0 ∨ j = 1 ∨ j = 2 ∨ j = 3 ∨ j = 4 ∨ j = 5 ∨ j = 6 ∨ j = 7 by omega) with rfl | rfl | rfl | rfl | rfl | rfl | rfl | rfl
    · have e0 : b0 = false := by
        simp only [Bool.and_eq_true] at hj2
        simpa using hj2.1
      refine Wn.one rfl (by rw [hfz]; rfl) (by simp [base]) fun τ d => ?_
      have q1' : (u1.on τ d).cell? ⟨lb, 0, none⟩ = some (.slice A l.length cp) := q1
      have q2' : (u1.on τ d).cell? ⟨db, 0, none⟩ = some (.func (.func fid) #[] caps) := q2
      have q3' : (u1.on τ d).cell? ⟨ob, 0, none⟩ = some (.slice (some ⟨L.out, 0, none⟩) L.on L.on) := q3
      have q4' : (u1.on τ d).cell? ⟨ib, 0, none⟩ = some (.int .i64 i) := q4
      show wpList _ _ _ [_] _ _
      dsimp only [List.getElem_toArray, List.getElem_cons_zero, List.getElem_cons_succ]
      go_wp2_with fail
      refine Wn.on ?_ τ d
      exact hK _ u1 C1 ⟨true, b1, b2, b3, b4, b5, b6, false, x5, .slice (some ⟨L.out, 0, none⟩) L.on L.on, x7, x8, x9, x10, x11, x12, rfl, (by simp only [cnt, List.countP_cons, List.countP_nil, e0] at hcnt ⊢; simp at hcnt ⊢; omega), rfl, fun _ => rfl, g1, g2, g3, g4, fun e => ⟨(g6 e).1, (by refine ⟨?_, ?_, ?_, ?_, ?_⟩ <;> first | rfl | exact (g6 e).2.1.1 | exact (g6 e).2.1.2.1 | exact (g6 e).2.1.2.2.1 | exact (g6 e).2.1.2.2.2.1 | exact (g6 e).2.1.2.2.2.2), (g6 e).2.2⟩, fun e => (by cases e), F1, hF1, hkF, hst'⟩
    · have e1 : b1 = false := by
        simp only [Bool.and_eq_true] at hj2
        simpa using hj2.1
      refine Wn.one rfl (by rw [hfz]; rfl) (by simp [base]) fun τ d => ?_
      have q1' : (u1.on τ d).cell? ⟨lb, 0, none⟩ = some (.slice A l.length cp) := q1
      have q2' : (u1.on τ d).cell? ⟨db, 0, none⟩ = some (.func (.func fid) #[] caps) := q2
      have q3' : (u1.on τ d).cell? ⟨ob, 0, none⟩ = some (.slice (some ⟨L.out, 0, none⟩) L.on L.on) := q3
      have q4' : (u1.on τ d).cell? ⟨ib, 0, none⟩ = some (.int .i64 i) := q4
      show wpList _ _ _ [_] _ _
      dsimp only [List.getElem_toArray, List.getElem_cons_zero, List.getElem_cons_succ]
      go_wp2_with fail
      refine Wn.on ?_ τ d
      exact hK _ u1 C1 ⟨b0, true, b2, b3, b4, b5, b6, false, x5, x6, num i, x8, x9, x10, x11, x12, rfl, (by simp only [cnt, List.countP_cons, List.countP_nil, e1] at hcnt ⊢; simp at hcnt ⊢; omega), rfl, g0, fun _ => rfl, g2, g3, g4, fun e => ⟨(g6 e).1, (by refine ⟨?_, ?_, ?_, ?_, ?_⟩ <;> first | rfl | exact (g6 e).2.1.1 | exact (g6 e).2.1.2.1 | exact (g6 e).2.1.2.2.1 | exact (g6 e).2.1.2.2.2.1 | exact (g6 e).2.1.2.2.2.2), (g6 e).2.2⟩, fun e => (by cases e), F1, hF1, hkF, hst'⟩
    · have e2 : b2 = false := by
        simp only [Bool.and_eq_true] at hj2
        simpa using hj2.1
      refine Wn.one rfl (by rw [hfz]; rfl) (by simp [base]) fun τ d => ?_
      have q1' : (u1.on τ d).cell? ⟨lb, 0, none⟩ = some (.slice A l.length cp) := q1
      have q2' : (u1.on τ d).cell? ⟨db, 0, none⟩ = some (.func (.func fid) #[] caps) := q2
      have q3' : (u1.on τ d).cell? ⟨ob, 0, none⟩ = some (.slice (some ⟨L.out, 0, none⟩) L.on L.on) := q3
      have q4' : (u1.on τ d).cell? ⟨ib, 0, none⟩ = some (.int .i64 i) := q4
      show wpList _ _ _ [_] _ _
      dsimp only [List.getElem_toArray, List.getElem_cons_zero, List.getElem_cons_succ]
      go_wp2_with fail
      refine Wn.on ?_ τ d
      exact hK _ u1 C1 ⟨b0, b1, true, b3, b4, b5, b6, false, x5, x6, x7, ptr T, x9, x10, x11, x12, rfl, (by simp only [cnt, List.countP_cons, List.countP_nil, e2] at hcnt ⊢; simp at hcnt ⊢; omega), rfl, g0, g1, fun _ => rfl, g3, g4, fun e => ⟨(g6 e).1, (by refine ⟨?_, ?_, ?_, ?_, ?_⟩ <;> first | rfl | exact (g6 e).2.1.1 | exact (g6 e).2.1.2.1 | exact (g6 e).2.1.2.2.1 | exact (g6 e).2.1.2.2.2.1 | exact (g6 e).2.1.2.2.2.2), (g6 e).2.2⟩, fun e => (by cases e), F1, hF1, hkF, hst'⟩
    · have e3 : b3 = false := by
        simp only [Bool.and_eq_true] at hj2
        simpa using hj2.1
      refine Wn.one rfl (by rw [hfz]; rfl) (by simp [base]) fun τ d => ?_
      have q1' : (u1.on τ d).cell? ⟨lb, 0, none⟩ = some (.slice A l.length cp) := q1
      have q2' : (u1.on τ d).cell? ⟨db, 0, none⟩ = some (.func (.func fid) #[] caps) := q2
      have q3' : (u1.on τ d).cell? ⟨ob, 0, none⟩ = some (.slice (some ⟨L.out, 0, none⟩) L.on L.on) := q3
      have q4' : (u1.on τ d).cell? ⟨ib, 0, none⟩ = some (.int .i64 i) := q4
      show wpList _ _ _ [_] _ _
      dsimp only [List.getElem_toArray, List.getElem_cons_zero, List.getElem_cons_succ]
      go_wp2_with fail
      refine Wn.on ?_ τ d
      exact hK _ u1 C1 ⟨b0, b1, b2, true, b4, b5, b6, false, x5, x6, x7, x8, .slice A l.length cp, x10, x11, x12, rfl, (by simp only [cnt, List.countP_cons, List.countP_nil, e3] at hcnt ⊢; simp at hcnt ⊢; omega), rfl, g0, g1, g2, fun _ => rfl, g4, fun e => ⟨(g6 e).1, (by refine ⟨?_, ?_, ?_, ?_, ?_⟩ <;> first | rfl | exact (g6 e).2.1.1 | exact (g6 e).2.1.2.1 | exact (g6 e).2.1.2.2.1 | exact (g6 e).2.1.2.2.2.1 | exact (g6 e).2.1.2.2.2.2), (g6 e).2.2⟩, fun e => (by cases e), F1, hF1, hkF, hst'⟩
    · have e4 : b4 = false := by
        simp only [Bool.and_eq_true] at hj2
        simpa using hj2.1
      refine Wn.one rfl (by rw [hfz]; rfl) (by simp [base]) fun τ d => ?_
      have q1' : (u1.on τ d).cell? ⟨lb, 0, none⟩ = some (.slice A l.length cp) := q1
      have q2' : (u1.on τ d).cell? ⟨db, 0, none⟩ = some (.func (.func fid) #[] caps) := q2
      have q3' : (u1.on τ d).cell? ⟨ob, 0, none⟩ = some (.slice (some ⟨L.out, 0, none⟩) L.on L.on) := q3
      have q4' : (u1.on τ d).cell? ⟨ib, 0, none⟩ = some (.int .i64 i) := q4
      show wpList _ _ _ [_] _ _
      dsimp only [List.getElem_toArray, List.getElem_cons_zero, List.getElem_cons_succ]
      go_wp2_with fail
      refine Wn.on ?_ τ d
      exact hK _ u1 C1 ⟨b0, b1, b2, b3, true, b5, b6, false, x5, x6, x7, x8, x9, .func (.func fid) #[] caps, x11, x12, rfl, (by simp only [cnt, List.countP_cons, List.countP_nil, e4] at hcnt ⊢; simp at hcnt ⊢; omega), rfl, g0, g1, g2, g3, fun _ => rfl, fun e => ⟨(g6 e).1, (by refine ⟨?_, ?_, ?_, ?_, ?_⟩ <;> first | rfl | exact (g6 e).2.1.1 | exact (g6 e).2.1.2.1 | exact (g6 e).2.1.2.2.1 | exact (g6 e).2.1.2.2.2.1 | exact (g6 e).2.1.2.2.2.2), (g6 e).2.2⟩, fun e => (by cases e), F1, hF1, hkF, hst'⟩
    · have e5 : b5 = false ∧ b2 = true ∧ b3 = true ∧ b4 = true := by
        simp only [Bool.and_eq_true] at hj2
        refine ⟨by simpa using hj2.1, ?_⟩
        have := hj2.2
        simp [Region.binds] at this
        exact ⟨this.1, this.2.1, this.2.2⟩
      obtain ⟨e5, e2, e3, e4⟩ := e5
      have h8 := g2 e2
      have h9 := g3 e3
      have h10 := g4 e4
      subst e5
      simp only [Bool.false_eq_true, if_false] at hst
      obtain ⟨m, hat⟩ := hst
      subst h8 h9 h10
      refine Wn.callI (by simp [base]) rfl rfl rfl (by kernel_rfl) ?_
      refine one76 (M := worldMode L i T) hdo hbd hlen hin hs ⟨m, hat⟩ ?_
      rintro v out F2 u2 C2 ⟨m2, hat2⟩ hF2 hk2 hR _
      rw [Frame.finish_at]
      have e5 : false = false := rfl
      exact hK _ u2 C2 ⟨b0, b1, b2, b3, b4, true, b6, false, x5, x6, x7, _, _, _, v, x12, rfl, (by simp only [cnt, List.countP_cons, List.countP_nil] at hcnt ⊢; simp at hcnt ⊢; omega), rfl, g0, g1, g2, g3, g4, fun e => ⟨rfl, (g6 e).2.1, (g6 e).2.2⟩, fun e => (by cases e), F2, (fun b hb => hF2 b (hF1 b hb)), (hkF.trans' hF1 hk2), (by rw [if_neg (by simp), if_pos rfl]; exact ⟨m2, out, v, hat2, hR, rfl⟩)⟩
    · have e6 : b6 = false ∧ b0 = true ∧ b1 = true ∧ b2 = true ∧ b3 = true ∧ b4 = true ∧ b5 = true := by
        simp only [Bool.and_eq_true] at hj2
        refine ⟨by simpa using hj2.1, ?_⟩
        have := hj2.2
        simp [Region.binds] at this
        simp [this]
      obtain ⟨e6, e0, e1, g2b, g3b, g4b, e5⟩ := e6
      have h6 := g0 e0
      have h7 := g1 e1
      have h8 := g2 g2b
      have h9 := g3 g3b
      have h10 := g4 g4b
      subst h6 h7 h8 h9 h10
      have d2 : decide ((0 : Int) ≤ (i : Int)) = true := decide_eq_true (by omega)
      have d1 : decide ((i : Int) < (L.on : Int)) = true := decide_eq_true (by omega)
      have d3 : (i : Int) < (L.on : Int) := by omega
      have d4 : (0 : Int) ≤ (i : Int) := by omega
      have ha : (⟨L.out, 0, none⟩ : Addr).add i = ⟨L.out, i, none⟩ := addr_add _ _
      refine Wn.one rfl (by rw [hfz]; rfl) (by simp [base]) fun τ d => ?_
      show wpList _ _ _ [_] _ _
      dsimp only [List.getElem_toArray, List.getElem_cons_zero, List.getElem_cons_succ]
      go_wp2_with fail
      refine Wn.on ?_ τ d
      exact hK _ u1 C1 ⟨b0, b1, b2, b3, b4, b5, true, false, x5, _, _, _, _, _, x11, .pointer (some ⟨L.out, i, none⟩), rfl, (by simp only [cnt, List.countP_cons, List.countP_nil, e6] at hcnt ⊢; simp at hcnt ⊢; omega), rfl, fun _ => rfl, fun _ => rfl, fun _ => rfl, fun _ => rfl, fun _ => rfl, fun _ => ⟨e5, ⟨e0, e1, g2b, g3b, g4b⟩, rfl⟩, fun e => (by cases e), F1, hF1, hkF, hst'⟩
    · have e7 : b6 = true ∧ b5 = true := by
        simp only [Bool.and_eq_true] at hj2
        have := hj2.2
        simp [Region.binds] at this
        simp [this]
      obtain ⟨e6, e5⟩ := e7
      have h12 := (g6 e6).2.2
      subst h12
      subst e5
      simp only [if_true] at hst
      obtain ⟨m, out, v, hat, hR, rfl⟩ := hst
      obtain ⟨oc, hoc, hocs, _⟩ := WAt.outblk hat
      obtain ⟨ov, w0⟩ : ∃ ov, u1.cell? ⟨L.out, i, none⟩ = some ov := ⟨oc[i]'(by omega), (blk_cell hoc i).trans (Array.getElem?_eq_getElem (by omega))⟩
      have w1 : u1.frozen? ⟨L.out, i, none⟩ = false := blk_thawed hoc i
      have hb7 : (fun b : Bool => b) false = false := rfl
      refine Wn.one rfl (by rw [hfz]; rfl) (by simp [base]) fun τ d => ?_
      have w0' : (u1.on τ d).cell? ⟨L.out, i, none⟩ = some ov := w0
      have w1' : (u1.on τ d).frozen? ⟨L.out, i, none⟩ = false := w1
      have hks : Keep F u1 (u1.setCell ⟨L.out, i, none⟩ x11) := fun b hb => blk_set_ne (a := ⟨L.out, i, none⟩) (fun e => out_free hat (by rw [← show b = L.out from e]; exact hF1 b hb)) _
      obtain ⟨A0, hA0⟩ := Kd.R_slice hR
      obtain ⟨c0, hx11⟩ := hA0
      have hwr := wret_of hat hR
      subst hx11
      clear w0 w1 hoc hocs
      show wpList _ _ _ [_] _ _
      dsimp only [List.getElem_toArray, List.getElem_cons_zero, List.getElem_cons_succ]
      go_wp2_with fail
      refine Wn.on (u := u1.setCell ⟨L.out, i, none⟩ (.slice A0 out.length c0)) ?_ τ d
      refine hK _ _ C1 ⟨b0, b1, b2, b3, b4, true, b6, true, _, _, _, _, _, _, _, _, rfl, (by simp only [cnt, List.countP_cons, List.countP_nil] at hcnt ⊢; simp at hcnt ⊢; omega), rfl, fun _ => rfl, fun _ => rfl, fun _ => rfl, fun _ => rfl, fun _ => rfl, fun e => ⟨rfl, (g6 e).2.1, rfl⟩, fun _ => e6, F1, hF1, hkF.trans hks, ?_⟩
      rw [if_pos rfl]
      exact ⟨out, hwr⟩
  · rintro listed a u1 C1 ⟨b0, b1, b2, b3, b4, b5, b6, b7, x5, x6, x7, x8, x9, x10, x11, x12, rfl, hcnt, rfl, g0, g1, g2, g3, g4, g6, g7, F1, hF1, hkF, hst⟩
    have e7 : b7 = true := by
      cases b7 with
      | true => rfl
      | false => exact absurd hcnt (by simp only [cnt, List.countP_cons, List.countP_nil]; simp; omega)
    subst e7
    simp only [if_true] at hst
    obtain ⟨out, hst⟩ := hst
    refine Wn.fall (Wn.back rfl rfl Try.func75 (results_none rfl _ _ _) ?_)
    exact hn out F1 u1 C1 hst hF1 hkF
end
end Go.Proofs.Ytoabkcalphpkhaa

/- Merged: Turn102, Spawn, Run77. -/
import Derived.Test.YtoabkcalphpkhaaN16
import Derived.Conc.SmallLaws
/- (*World).turn, as main does it: who could go is gathered, one is picked, and goes until it gives its turn back. (Printed by gen_turn102.py.) -/
namespace Go.Proofs.Ytoabkcalphpkhaa
open Go Go.Conc Go.RowKit
open Go.Proofs.YtoabkcalphpkhaaW.PrintWords
set_option linter.unusedVariables false
set_option linter.unusedSimpArgs false
set_option linter.unusedSectionVars false
set_option maxRecDepth 100000

section
variable {L : Lay} {n : Nat} {u : World} {ts : List (Nat × Nat)} {tc : Nat → TC} {s : Sys} {vth vtr : Value} {oc : Array Value} {pks : List Park} {recs : Nat → Goroutine} {Cl : Nat → Nat → Option Obj} {C : Ctx Try.prog} {fr : Frame} {cs : List Frame}

/-- Exactly that state. -/
abbrev Is (s : Sys) (pks : List Park) : Sys → List Park → Prop := fun a b => a = s ∧ b = pks

set_option maxHeartbeats 1000000 in
/-- One that could go goes. -/
theorem goes102 {u1 uT : World} {j : Nat} {p : Nat × Nat} {pk : Park} {sQ : Sys} {fr0 : Frame} {fs0 : List Frame} {r : Sys × Park} {r0 : Goroutine} (hh : Held L (Qn L (n + 1)) ts tc sQ vth vtr oc pks recs Cl (fun _ => False) u1)
    (hp : ts[j]? = some p) (hpk : pks[j]? = some pk) (hs : pk.sits = true) (hT : uT.heap[p.1]? = some (.cells (tCells L.W j p.2 ⟨0, (tc j).cell, (tc j).op, (tc j).seen⟩) 92 (2, 3))) (ho : ∀ b, b ≠ p.1 → uT.heap[b]? = u1.heap[b]?) (hsz : uT.heap.size = u1.heap.size) (hos : uT.os = u1.os) (hout : uT.output = u1.output)
    {fr1 : Frame} {fs1 : List Frame} (hrec : recs j = gr fr1 fs1) (hr : r = advS j pk.resume sQ) (hb : r.2.isBad = false) (hroom : r.1.trace.length ≤ roomB) (hnb : ∀ pk ∈ pks, pk.isBad = false) (hr0 : r0 = gr fr0 fs0) (hback : ∀ u C, MainAt L (Qn L n) (Is r.1 (pks.set j r.2)) u C → Wn C (fr0.finish (.agg #[])) fs0 u) :
    ∀ hc kk, Wn ((ctxOf L ts pks recs none 0 hh.hW).next (ctxOf L ts pks recs none 0 hh.hW).N (L.N0 + j) (((ctxOf L ts pks recs none 0 hh.hW).I.set 0 (some (seatM L r0))).set (L.N0 + j) none) hc) (fr1.finish (.agg #[])) fs1 (uT.setChan p.2 0 #[] false kk kk false) := by
  intro hc kk
  have hN0 := hh.N0
  have hI : (((ctxOf L ts pks recs none 0 hh.hW).I.set 0 (some (seatM L r0))).set (L.N0 + j) none) = seats L ts (pks.set j .bad) recs (some r0) := by
    funext x
    unfold Seats.set
    show (if x = L.N0 + j then none else if x = 0 then _ else seats L ts pks recs none x) = _
    unfold seats
    by_cases e0 : x = 0
    · rw [if_neg (by omega), if_pos e0, if_pos e0]; rfl
    · rw [if_neg e0, if_neg e0, if_neg e0]
      by_cases e1 : x = L.N0 + j
      · rw [if_pos e1, if_neg (show ¬ x < L.N0 by omega), e1, Nat.add_sub_cancel_left]
        unfold seatAt
        rw [hp, List.getElem?_set_self (by rw [hh.lens]; exact (List.getElem?_eq_some_iff.1 hp).1)]
        rfl
      · rw [if_neg e1]
        split
        · rfl
        · unfold seatAt
          rw [List.getElem?_set_ne (by omega)]
  have hpar := hh.par j p pk hp hpk
  obtain ⟨hq0, fr1', fs1', hrec', hq⟩ := hpar.2.1 hs
  rw [hrec] at hrec'
  injection hrec' with e1 e2
  subst e1; subst e2
  rw [next_eq hc hI]
  have hH := hh.heaps
  have hrA := hh.rep.thread hp hT ho hos hout
  have hrB := hrA.chan (k := kk) (hrA.goes p (List.mem_of_getElem? hp))
  have hmem : p ∈ ts := List.mem_of_getElem? hp
  have hsT : sysb L ts vth vtr p.1 := .inr (.inr (.inr (.inr (.inr (.inl ⟨_, hmem, .inl rfl⟩)))))
  have hsG : sysb L ts vth vtr p.2 := .inr (.inr (.inr (.inr (.inr (.inl ⟨_, hmem, .inr rfl⟩)))))
  have hoB : ∀ b, b ≠ p.1 → b ≠ p.2 → (uT.setChan p.2 0 #[] false kk kk false).heap[b]? = u1.heap[b]? := fun b h1 h2 => (heap_setChan_ne uT _ _ _ _ _ _ (Ne.symm h2)).trans (ho b h1)
  have hcl : ∀ x b o, Cl x b = some o → (uT.setChan p.2 0 #[] false kk kk false).heap[b]? = some o := fun x b o ho' => by
    rw [hoB b (fun e => hH.cls x b o ho' (e ▸ hsT)) (fun e => hH.cls x b o ho' (e ▸ hsG))]
    exact hH.cl x b o ho'
  refine hq (fun b => ∃ o, Cl (j + 1) b = some o) _ _ ⟨p.2, ts, fun i => if i = j then ⟨0, (tc j).cell, (tc j).op, (tc j).seen⟩ else tc i, sQ, vth, vtr, oc, pks.set j .bad, recs, r0, Is r.1 (pks.set j r.2), fun x => if x = j + 1 then (fun _ => none) else Cl x, ⟨?_, hp, ?_, fun b => if_pos rfl ▸ rfl, ?_, ⟨fr0, fs0, hr0, hback⟩, ?_, ?_⟩, rfl⟩ fun b o hbo => ⟨⟨o, hbo⟩, hcl _ b o hbo⟩
  · refine ⟨by rw [List.length_set]; exact hh.lens, hrB, ⟨fun x b o ho' => ?_, fun x b o ho' => ?_, fun x x' b o o' h1 h2 => ?_, fun b hb => ?_⟩, ?_, fun x hx b => ?_, hh.N0, hh.ton, fun i q pk' hq' hpk' => ?_⟩
    · split at ho'
      · cases ho'
      · exact hcl x b o ho'
    · split at ho'
      · cases ho'
      · exact hH.cls x b o ho'
    · split at h1
      · cases h1
      · split at h2
        · cases h2
        · exact hH.dis x x' b o o' h1 h2
    · obtain ⟨o, hbo⟩ := hb
      refine ⟨?_, hH.cls _ b o hbo, fun x => ?_⟩
      · exact blk_lt (hcl _ b o hbo)
      · split
        · rfl
        · rename_i hx
          cases hx' : Cl x b with
          | none => rfl
          | some o' => exact absurd (hH.dis x (j + 1) b o' o hx' hbo) hx
    · rw [if_neg (by omega)]; exact hh.ro
    · split
      · rfl
      · exact hh.idle x hx b
    · by_cases ei : i = j
      · subst ei
        rw [List.getElem?_set_self (by rw [hh.lens]; exact (List.getElem?_eq_some_iff.1 hp).1)] at hpk'
        obtain rfl := Option.some.inj hpk'
        exact ⟨trivial, (fun h => by cases h), fun out h => by cases h⟩
      · rw [List.getElem?_set_ne (Ne.symm ei)] at hpk'
        simp only [if_neg ei, if_neg (show ¬ (i + 1 = j + 1) by omega)]
        obtain ⟨h1, h2, h3⟩ := hh.par i q pk' hq' hpk'
        exact ⟨h1, fun hs' => (h2 hs').1, h3⟩
  · exact List.getElem?_set_self (by rw [hh.lens]; exact (List.getElem?_eq_some_iff.1 hp).1)
  · simp only [if_pos rfl]
    cases pk with
    | want c op f k => exact ⟨hpar.1.2.1, hpar.1.2.2⟩
    | wait c seen k => trivial
    | ended out => cases hs
    | bad => cases hs
  · rintro a b ⟨rfl, rfl⟩
    refine ⟨hroom, fun x hx => ?_⟩
    rcases List.mem_or_eq_of_mem_set hx with h1 | h1
    · exact hnb x h1
    · rw [h1]; exact hb
  · rw [List.set_set, ← hr]
    exact ⟨rfl, rfl⟩

set_option maxHeartbeats 4000000 in
theorem turn102 (hon : L.on ≤ 1000) (hsch : Sched L) (hh : Held L (Qn L (n + 1)) ts tc s vth vtr oc pks recs Cl (fun _ => False) u) (hC : C = ctxOf L ts pks recs none 0 hh.hW) (hnb : ∀ pk ∈ pks, pk.isBad = false)
    (hdone : readyL s pks = [] → pks.any Park.waits = false → ∀ u', MainAt L (Qn L (n + 1)) (Is s pks) u' C → Wn C (fr.finish (.bool false)) cs u')
    (hjr : readyL s pks = [] → pks.any Park.waits = true → s.trace.length + 1 ≤ roomB)
    (hjam : readyL s pks = [] → pks.any Park.waits = true → ∀ u', MainAt L (Qn L (n + 1)) (Is s.jam pks) u' C → Wn C (fr.finish (.bool true)) cs u')
    (hgr : readyL s pks ≠ [] → ∀ j r, j = pickOf L.sched s (readyL s pks) → r = advS j (pks.getD j .bad).resume (s.picked L.sched j) → r.2.isBad = false ∧ r.1.trace.length ≤ roomB)
    (hgo : readyL s pks ≠ [] → ∀ j r, j = pickOf L.sched s (readyL s pks) → r = advS j (pks.getD j .bad).resume (s.picked L.sched j) → ∀ u' C', MainAt L (Qn L n) (Is r.1 (pks.set j r.2)) u' C' → Wn C' (fr.finish (.bool true)) cs u') :
    Wn C (Frame.enter Try.prog 102 #[ptr L.W] .normal) (fr :: cs) u := by
  have hr := hh.rep
  have hlen := hh.lens
  obtain ⟨A, cp, eth, hPA, hmx⟩ := ptrs_of_row hr.th
  rw [List.length_map] at eth hmx
  subst eth
  have hfz : C.fz = true := by rw [hC]; rfl
  have hS : C.S = S0 := by rw [hC]; rfl
  have HC : Hid (C = ctxOf L ts pks recs none 0 hh.hW) := hC
  have hdone : Hid _ := hdone
  have hjr : Hid _ := hjr
  have hjam : Hid _ := hjam
  have hgr : Hid _ := hgr
  have hgo : Hid _ := hgo
  clear hC
  have hW4 : u.cell? ⟨L.W, 4, none⟩ = some (.slice A ts.length cp) := (blk_cell hr.w 4).trans rfl
  refine Wn.body Try.func102 rfl ?_
  simp only [Try.ntmps102, List.size_toArray, List.length_cons, List.length_nil, Nat.reduceAdd, Nat.reduceSub, Array.replicate_succ, Array.replicate_zero, List.push_toArray, List.append_toArray, List.nil_append, List.cons_append]
  refine Wn.seq (Wn.reg (by simp [base]) (by rw [hfz]; kernel_rfl) ?_)
  go_wp2_with fail
  refine ⟨rfl, ?_⟩
  refine Wn.seq (Wn.reg (by simp [base]) (by rw [hfz]; kernel_rfl) ?_)
  go_wp2_with fail
  refine ⟨rfl, ?_⟩
  refine Wn.seq (Wn.reg (by simp [base]) (by rw [hfz]; kernel_rfl) ?_)
  go_wp2_with fail
  refine ⟨rfl, ?_⟩
  refine Wn.seq (Wn.seq (Wn.reg (by simp [base]) (by rw [hfz]; kernel_rfl) ?_))
  go_wp2_with fail
  refine ⟨rfl, ?_⟩
  clear hW4
  refine Wn.block ?_
  refine Wn.loop_ind (f := pks.length - 0 + 1) (fun f a u1 C1 => C1 = C ∧ ∃ (i : Nat) (v : Value) (wt : Bool), Hid (wt = (pks.take i).any Park.waits) ∧ f = pks.length - i + 1 ∧ i ≤ pks.length ∧ Grown u u1 ∧ kP.R 45 u1 0 (fun k => u.heap.size ≤ k) v ((goList s pks i).map fun j => (ts.getD j (0, 0)).1) ∧ ∃ x6 x14 x15 x16 x17 x18 x19 x20 x21 x22 x23 x24 x25 x26 x27 x28 x29 x30 x31, a = { tmps := #[ptr L.W, undef, .bool false, v, .bool wt, undef, x6, undef, ptr L.W, ptr L.W, .pointer (some ⟨L.W, 4, none⟩), .slice A ts.length cp, num ts.length, num i, x14, x15, x16, x17, x18, x19, x20, x21, x22, x23, x24, x25, x26, x27, x28, x29, x30, x31, undef, undef, undef, undef, undef, undef, undef, undef, undef, undef, undef, undef, undef, undef, undef, undef, undef, undef, undef, undef, undef, undef, undef, undef, undef, undef, undef, undef, undef, undef, undef, undef, undef, undef, undef, undef, undef, undef, undef, undef, undef], defers := [] }) ?_ ?_ ⟨rfl, 0, _, false, rfl, rfl, Nat.zero_le _, Grown.refl u, Kd.R_nil _ _ _ _ _, _, _, _, _, _, _, _, _, _, _, _, _, _, _, _, _, _, _, _, rfl⟩
  · rintro f ih a u1 C1 ⟨rfl, i, v, wt, hwt, hf, hi, hg, hR, x6, x14, x15, x16, x17, x18, x19, x20, x21, x22, x23, x24, x25, x26, x27, x28, x29, x30, x31, rfl⟩
    have hh1 := hh.grown hg
    have hr1 := hh1.rep
    by_cases hend : i < pks.length
    · have hit : i < ts.length := by omega
      have hlm : (ts.map (·.1)).length = ts.length := List.length_map ..
      have hpi : ts[i]? = some ts[i] := List.getElem?_eq_getElem hit
      have hti : (ts.map (·.1)).getD i 0 = ts[i].1 := by rw [List.getD_eq_getElem?_getD, List.getElem?_map, hpi]; rfl
      have htd : (ts.getD i (0, 0)).1 = ts[i].1 := by rw [List.getD_eq_getElem?_getD, hpi]; rfl
      have hki : pks[i]? = some pks[i] := List.getElem?_eq_getElem hend
      have hkd : pks.getD i .bad = pks[i] := by rw [List.getD_eq_getElem?_getD, hki]; rfl
      have hpar := hh1.par i _ _ hpi hki
      have hbad := hnb _ (List.mem_of_getElem? hki)
      have hrdy := ready_of (s := s) hpar.1 hbad
      have hwts := waits_of hpar.1 hbad
      have hTi := hr1.t i _ hpi
      obtain ⟨ad, rfl, q0⟩ := hPA i (by omega)
      rw [hti] at q0
      have q0 := hg.cell q0
      have hacc := goList_succ s pks i
      have hle := goList_le s pks i
      have hany := any_succ hend
      rw [hkd] at hacc hany
      generalize hTe : ts[i].1 = Ti at hTi q0 htd
      generalize hge : ts[i].2 = gi at hTi
      generalize pks[i] = pk at hrdy hwts hacc hany
      have d1 : decide ((i : Int) < (ts.length : Int)) = true := decide_eq_true (by omega)
      refine Wn.seq (Wn.reg (by simp [base]) (by rw [hfz]; kernel_rfl) ?_)
      go_wp2_with fail
      refine ⟨rfl, ?_⟩
      refine Wn.seq (Wn.cond rfl ?_)
      simp only [if_true]
      clear d1
      have d1 : decide ((i : Int) < (ts.length : Int)) = true := decide_eq_true (by omega)
      have d2 : decide ((0 : Int) ≤ (i : Int)) = true := decide_eq_true (by omega)
      have d3 : (i : Int) < (ts.length : Int) := by omega
      have d4 : (0 : Int) ≤ (i : Int) := by omega
      refine Wn.skip (Wn.seq (Wn.block ?_))
      refine Wn.seq (Wn.reg (by simp [base]) (by rw [hfz]; kernel_rfl) ?_)
      go_wp2_with fail
      refine ⟨rfl, ?_⟩
      clear d1 d2 d3 d4 q0
      refine Wn.seq (Wn.seq (Wn.open ?_))
      refine Wn.span1 0 1 2 (by simp [base]) (by decide) (by decide) (by rw [hfz]; kernel_rfl) ?_
      simp only [List.take, List.drop]
      go_wp2_with fail
      refine ⟨rfl, ?_⟩
      obtain ⟨hnums, hmax⟩ := nums_of_row hr1.ch
      refine Wn.callR 1 1 0 rfl (by simp [base]) rfl rfl rfl (by rw [hS]; rfl) (.bool (pk.ready s)) (fun τ d => (ready_calls (u1.on τ d) Ti L.W (some ⟨L.cA, 0, none⟩) L.cn L.cc s.chg (tc i).st (tc i).cell (tc i).seen s.stuck hmax ((blk_cell hTi 0).trans rfl) ((blk_cell hTi 3).trans rfl) ((blk_cell hTi 4).trans rfl) ((blk_cell hTi 6).trans rfl) ((blk_cell hr1.w 6).trans rfl) ((blk_cell hr1.w 3).trans rfl) hnums).mono ?_) ?_
      · rintro e w' ⟨rfl, q, rfl⟩
        rw [hrdy]
        exact ⟨rfl, τ, _, rfl⟩
      refine Wn.range_end (Wn.cond rfl ?_)
      have hT3 : u1.cell? ⟨Ti, 3, none⟩ = some (num (tc i).st) := (blk_cell hTi 3).trans rfl
      have hgp : Hid (u1.heap.size = u1.heap.size) := rfl
      generalize hrd : pk.ready s = rd at hacc
      cases rd with
      | true =>
        simp only [if_true] at hacc ⊢
        refine Wn.open ?_
        refine Wn.span1 0 3 5 (by simp [base]) (by decide) (by decide) (by rw [hfz]; kernel_rfl) ?_
        simp only [List.take, List.drop]
        go_wp2_with fail
        refine ⟨rfl, ?_⟩
        refine Wn.opT 3 2 1 rfl (by simp [base]) rfl (by rw [hfz]; rfl) fun τ d => ?_
        refine append_thr (W := u1.on τ d) (p := Ti) (s := .tmp 19) (x := .tmp 21) (v := v) (acc := (goList s pks i).map fun j => (ts.getD j (0, 0)).1) (ok := fun k => u.heap.size ≤ k) rfl rfl rfl rfl (R_flat flat_kP hR (fun _ _ => rfl) hR.1) (by rw [List.length_map]; have := hh.ton; omega) ?_
        intro v1 w1 hRw hgw hat
        have hg1 : Grown u w1 := (hg.on τ d).of_row hgw fun k hk => hR.1 k hk
        have hR1 : kP.R 45 w1 0 (fun k => u.heap.size ≤ k) v1 ((goList s pks (i + 1)).map fun j => (ts.getD j (0, 0)).1) := by
          rw [hacc, List.map_append, List.map_singleton, htd]
          exact Kd.R_mono hRw fun k hk => hk.elim (fun h => h) fun h => Nat.le_trans hg.size h
        have hT3 : w1.cell? ⟨Ti, 3, none⟩ = some (num (tc i).st) := (blk_cell (hTe ▸ hge ▸ (hh.grown hg1).rep.t i _ hpi) 3).trans rfl
        refine Wn.span1 4 1 1 (by simp [base]) (by decide) (by decide) (by rw [hfz]; kernel_rfl) ?_
        simp only [List.take, List.drop]
        go_wp2_with fail
        refine ⟨rfl, ?_⟩
        refine Wn.range_end ?_
        cases wt with
        | true =>
          refine Wn.reg (by simp [base]) (by rw [hfz]; kernel_rfl) ?_
          go_wp2_with fail
          refine ⟨rfl, ?_⟩
          refine Wn.inBlock ?_
          refine Wn.reg (by simp [base]) (by rw [hfz]; kernel_rfl) ?_
          go_wp2_with fail
          refine ⟨rfl, ?_⟩
          refine ih _ _ _ ⟨rfl, i + 1, v1, true, (show Hid (_ = _) from by show _ = _; rw [hany, ← hwt.out]; rfl), by omega, by omega, hg1, hR1, _, _, _, _, _, _, _, _, _, _, _, _, _, _, _, _, _, _, _, rfl⟩
        | false =>
          have d1 : ((tc i).st == 2) = pk.waits := by rw [← hwts]; by_cases e : (tc i).st = 2 <;> simp [e]
          generalize hwn : pk.waits = wn at d1 hwts hany ⊢
          clear hwn
          refine Wn.reg (by simp [base]) (by rw [hfz]; kernel_rfl) ?_
          go_wp2_with fail
          refine ⟨rfl, ?_⟩
          refine Wn.inBlock ?_
          refine Wn.reg (by simp [base]) (by rw [hfz]; kernel_rfl) ?_
          go_wp2_with fail
          refine ⟨rfl, ?_⟩
          refine ih _ _ _ ⟨rfl, i + 1, v1, wn, (show Hid (_ = _) from by show _ = _; rw [hany, ← hwt.out]; rfl), by omega, by omega, hg1, hR1, _, _, _, _, _, _, _, _, _, _, _, _, _, _, _, _, _, _, _, rfl⟩
      | false =>
        simp only [Bool.false_eq_true, if_false, List.append_nil] at hacc ⊢
        rw [← hacc] at hR
        refine Wn.skip ?_
        cases wt with
        | true =>
          refine Wn.reg (by simp [base]) (by rw [hfz]; kernel_rfl) ?_
          go_wp2_with fail
          refine ⟨rfl, ?_⟩
          refine Wn.inBlock ?_
          refine Wn.reg (by simp [base]) (by rw [hfz]; kernel_rfl) ?_
          go_wp2_with fail
          refine ⟨rfl, ?_⟩
          refine ih _ _ _ ⟨rfl, i + 1, v, true, (show Hid (_ = _) from by show _ = _; rw [hany, ← hwt.out]; rfl), by omega, by omega, hg, hR, _, _, _, _, _, _, _, _, _, _, _, _, _, _, _, _, _, _, _, rfl⟩
        | false =>
          have d1 : ((tc i).st == 2) = pk.waits := by rw [← hwts]; by_cases e : (tc i).st = 2 <;> simp [e]
          generalize hwn : pk.waits = wn at d1 hwts hany ⊢
          clear hwn
          refine Wn.reg (by simp [base]) (by rw [hfz]; kernel_rfl) ?_
          go_wp2_with fail
          refine ⟨rfl, ?_⟩
          refine Wn.inBlock ?_
          refine Wn.reg (by simp [base]) (by rw [hfz]; kernel_rfl) ?_
          go_wp2_with fail
          refine ⟨rfl, ?_⟩
          refine ih _ _ _ ⟨rfl, i + 1, v, wn, (show Hid (_ = _) from by show _ = _; rw [hany, ← hwt.out]; rfl), by omega, by omega, hg, hR, _, _, _, _, _, _, _, _, _, _, _, _, _, _, _, _, _, _, _, rfl⟩
    · have hil : i = pks.length := by omega
      subst hil
      have hle := goList_le s pks pks.length
      have hgl : goList s pks pks.length = readyL s pks := rfl
      rw [hgl] at hR hle
      have HWT : Hid (wt = pks.any Park.waits) := by
        have h := hwt.out
        rw [List.take_length] at h
        exact h
      clear hwt
      have d1 : decide ((pks.length : Int) < (ts.length : Int)) = false := decide_eq_false (by omega)
      refine Wn.seq (Wn.reg (by simp [base]) (by rw [hfz]; kernel_rfl) ?_)
      go_wp2_with fail
      refine ⟨rfl, ?_⟩
      refine Wn.seq (Wn.cond rfl ?_)
      simp only [Bool.false_eq_true, if_false]
      clear d1
      refine Wn.exit rfl ?_
      obtain ⟨B, cq, ev, hPB, _⟩ := ptrs_of_row hR
      rw [List.length_map] at ev
      subst ev
      generalize hl : readyL s pks = l at hR hle hPB hdone hjr hjam hgr hgo
      by_cases he : l = []
      · subst he
        clear hgr hgo hPB hR hPA
        simp only [List.length_nil]
        refine Wn.seq (Wn.seq (Wn.reg (by simp [base]) (by rw [hfz]; kernel_rfl) ?_))
        go_wp2_with fail
        refine ⟨rfl, ?_⟩
        refine Wn.cond rfl ?_
        simp only [if_true]
        cases wt with
        | false =>
          refine Wn.seq (Wn.seq (Wn.reg (by simp [base]) (by rw [hfz]; kernel_rfl) ?_))
          go_wp2_with fail
          refine ⟨rfl, ?_⟩
          refine Wn.cond rfl ?_
          simp only [Bool.false_eq_true, if_false]
          refine Wn.skip (Wn.seq (Wn.reg (by simp [base]) (by rw [hfz]; kernel_rfl) ?_))
          go_wp2_with fail
          refine ⟨rfl, ?_⟩
          refine Wn.ret ?_
          refine Wn.back rfl rfl Try.func102 (results_tmp rfl _ _ _) ?_
          exact hdone.out (by first | exact rfl | trivial) HWT.out.symm u1 ⟨ts, tc, s, _, vtr, oc, pks, recs, Cl, hh1, HC.out, rfl, rfl⟩
        | true =>
          have hjr := hjr.out (by first | exact rfl | trivial) HWT.out.symm
          refine Wn.seq (Wn.seq (Wn.reg (by simp [base]) (by rw [hfz]; kernel_rfl) ?_))
          go_wp2_with fail
          refine ⟨rfl, ?_⟩
          refine Wn.cond rfl ?_
          simp only [if_true]
          have w6 : u1.cell? ⟨L.W, 6, none⟩ = some (.bool s.stuck) := (blk_cell hr1.w 6).trans rfl
          have z6 : u1.frozen? ⟨L.W, 6, none⟩ = false := (blk_frozen hr1.w 6).trans rfl
          refine Wn.seq (Wn.reg (by simp [base]) (by rw [hfz]; kernel_rfl) ?_)
          go_wp2_with fail
          refine ⟨rfl, ?_⟩
          clear w6 z6
          have hWA : (u1.setCell ⟨L.W, 6, none⟩ (.bool true)).heap[L.W]? = some (.cells (wCells L { s with stuck := true } _ vtr) 80 (8, 9)) := blk_set hr1.w 6 _
          have hhA := hh1.block (s' := { s with stuck := true }) hWA (fun b hb => blk_set_ne (a := ⟨L.W, 6, none⟩) hb _) (size_set _ _) rfl rfl rfl rfl rfl
          have hrA := hhA.rep
          generalize u1.setCell ⟨L.W, 6, none⟩ (.bool true) = uA at hWA hhA hrA ⊢
          have w5 : uA.cell? ⟨L.W, 5, none⟩ = some vtr := (blk_cell hrA.w 5).trans rfl
          refine Wn.open ?_
          refine Wn.span1 0 7 11 (by simp [base]) (by decide) (by decide) (by rw [hfz]; kernel_rfl) ?_
          simp only [List.take, List.drop]
          go_wp2_with fail
          refine ⟨rfl, ?_⟩
          clear w5
          refine Wn.opT 7 4 3 rfl (by simp [base]) rfl (by rw [hfz]; rfl) fun τ d => ?_
          refine append_st5 (W := uA.on τ d) (p := ⟨-1, -1, 7, 0, 0⟩) (s := .tmp 43) (x := .tmp 45) (v := vtr) (acc := s.trace) (ok := trOk vtr uA) rfl rfl rfl rfl (hhA.trR τ d) (room_of hjr) ?_
          intro v1 w1 hRw hgw hat
          have hRw' : k40.R 40 w1 0 (trOk vtr uA) v1 (s.trace ++ [⟨-1, -1, 7, 0, 0⟩]) := Kd.R_mono hRw fun k hk => hk.elim (fun h => h) fun h => .inr h
          have hhB := hhA.traced hRw' hgw.block hgw.size hgw.os hgw.output
          have hW1 : w1.heap[L.W]? = uA.heap[L.W]? := hgw.block _ (blk_lt hrA.w) fun e => own_ne hrA.tr hrA.w (by decide) e.symm rfl
          have w5 : w1.cell? ⟨L.W, 5, none⟩ = some vtr := (blk_cell (hW1.trans hrA.w) 5).trans rfl
          have z5 : w1.frozen? ⟨L.W, 5, none⟩ = false := (blk_frozen (hW1.trans hrA.w) 5).trans rfl
          obtain ⟨A1, c1, rfl⟩ := Kd.R_slice hRw'
          rw [show (s.trace ++ [(⟨-1, -1, 7, 0, 0⟩ : St5)]).length = s.trace.length + 1 from by simp] at hhB
          clear hW1 hRw hRw' hgw hat
          refine Wn.span1 8 3 3 (by simp [base]) (by decide) (by decide) (by rw [hfz]; kernel_rfl) ?_
          simp only [List.take, List.drop]
          go_wp2_with fail
          refine ⟨rfl, ?_⟩
          clear w5 z5
          refine Wn.range_end ?_
          refine Wn.seq (Wn.reg (by simp [base]) (by rw [hfz]; kernel_rfl) ?_)
          go_wp2_with fail
          refine ⟨rfl, ?_⟩
          refine Wn.ret ?_
          refine Wn.back rfl rfl Try.func102 (results_tmp rfl _ _ _) ?_
          exact hjam.out (by first | exact rfl | trivial) HWT.out.symm _ ⟨ts, tc, s.jam, _, _, oc, pks, recs, Cl, hhB, HC.out, rfl, rfl⟩
      · have hl0 : 0 < l.length := List.length_pos_iff.2 he
        have hd0 : ((l.length : Int) == 0) = false := beq_eq_false_iff_ne.mpr (by omega)
        have hd1 : decide ((l.length : Int) = 0) = false := decide_eq_false (by omega)
        refine Wn.seq (Wn.seq (Wn.reg (by simp [base]) (by rw [hfz]; kernel_rfl) ?_))
        go_wp2_with fail
        refine ⟨rfl, ?_⟩
        refine Wn.cond rfl ?_
        simp only [Bool.false_eq_true, if_false]
        clear hd0 hd1
        have hjm : Hid (pickOf L.sched s l ∈ l) := pick_mem he
        generalize hj : pickOf L.sched s l = j at hjm hgr hgo
        have hjl := mem_goList.1 (show j ∈ goList s pks pks.length by rw [hgl, hl]; exact hjm.out)
        obtain ⟨hjl, hjr'⟩ := hjl
        have hjt : j < ts.length := by omega
        have hpj : ts[j]? = some ts[j] := List.getElem?_eq_getElem hjt
        have hkj : pks[j]? = some pks[j] := List.getElem?_eq_getElem hjl
        have hkd : pks.getD j .bad = pks[j] := by rw [List.getD_eq_getElem?_getD, hkj]; rfl
        obtain ⟨hb, hroom⟩ := hgr.out he j _ rfl rfl
        have hgo := hgo.out he j _ rfl rfl
        rw [hkd] at hjr' hb hroom hgo
        have hgo : Hid _ := hgo
        clear hgr hdone hjr hjam
        have htp : (ts.getD j (0, 0)).1 = ts[j].1 := by rw [List.getD_eq_getElem?_getD, hpj]; rfl
        have hltl : ∀ k ∈ l, k < ts.length := fun k hk => by
          have := (mem_goList.1 (show k ∈ goList s pks pks.length by rw [hgl, hl]; exact hk)).1
          omega
        have hll : l.length ≤ 1000 := by have := hh.ton; omega
        have HJ : Hid (pickOf L.sched s l = j) := hj
        have HL : Hid (readyL s pks = l) := hl
        clear hj hl hgl hlen hle hmx
        refine Wn.skip (Wn.seq (Wn.open ?_))
        refine Wn.span1 0 2 4 (by simp [base]) (by decide) (by decide) (by rw [hfz]; kernel_rfl) ?_
        simp only [List.take, List.drop]
        go_wp2_with fail
        refine ⟨rfl, ?_⟩
        refine Wn.callP 2 2 1 rfl (by simp [base]) rfl rfl rfl (by rw [hS]; rfl) (K := Picked L s (.slice A ts.length cp) vtr u1 (ts.getD j (0, 0)).1 j) (fun v w τ d h => h.on τ d) (fun τ d => pick_any hsch hh1 he hltl hll hPB HJ.out τ d) ?_
        rintro v u' ⟨rfl, τ, d, uP, rfl, hWP, hoP, hsP, hosP, houtP⟩
        refine Wn.on (u := uP) ?_ τ d
        rw [htp]
        clear hPB hR hPA hltl htp
        have hpar := hh1.par j _ _ hpj hkj
        have hTj := hr1.t j _ hpj
        generalize ts[j] = p at hpj hTj hpar ⊢
        generalize pks[j] = pk at hkj hjr' hb hroom hgo hpar ⊢
        have hsit := sits_of_ready hjr'
        obtain ⟨_, fr1, fs1, hrec, _⟩ := hpar.2.1 hsit
        have hnWT := hr1.nW_T hpj
        have hTP := (hoP _ (Ne.symm hnWT)).trans hTj
        refine Wn.span1 3 1 1 (by simp [base]) (by decide) (by decide) (by rw [hfz]; kernel_rfl) ?_
        simp only [List.take, List.drop]
        go_wp2_with fail
        refine ⟨rfl, ?_⟩
        refine Wn.range_end ?_
        have q1 : uP.cell? ⟨p.1, 1, none⟩ = some (num j) := (blk_cell hTP 1).trans rfl
        have w2 : uP.cell? ⟨L.W, 2, none⟩ = some (num s.last) := (blk_cell hWP 2).trans rfl
        have z2 : uP.frozen? ⟨L.W, 2, none⟩ = false := (blk_frozen hWP 2).trans rfl
        refine Wn.seq (Wn.reg (by simp [base]) (by rw [hfz]; kernel_rfl) ?_)
        go_wp2_with fail
        refine ⟨rfl, ?_⟩
        clear q1 w2 z2
        have hWQ : (uP.setCell ⟨L.W, 2, none⟩ (num j)).heap[L.W]? = some (.cells (wCells L (s.picked L.sched j) (.slice A ts.length cp) vtr) 80 (8, 9)) := blk_set hWP 2 _
        have hhQ := hh1.block (u1 := uP.setCell ⟨L.W, 2, none⟩ (num j)) (s' := s.picked L.sched j) hWQ (fun b hb => (blk_set_ne (a := ⟨L.W, 2, none⟩) hb _).trans (hoP b hb)) ((size_set _ _).trans hsP) rfl rfl rfl hosP houtP
        have hTQ := hhQ.rep.t j _ hpj
        have hW8 : (uP.setCell ⟨L.W, 2, none⟩ (num j)).cell? ⟨L.W, 8, none⟩ = some (.chan (some L.back)) := (blk_cell hWQ 8).trans rfl
        have hbk := hhQ.rep.back
        have hrQ := hhQ.rep
        generalize uP.setCell ⟨L.W, 2, none⟩ (num j) = uQ at hWQ hhQ hTQ hW8 hbk hrQ ⊢
        have q3 : uQ.cell? ⟨p.1, 3, none⟩ = some (num (tc j).st) := (blk_cell hTQ 3).trans rfl
        have z3 : uQ.frozen? ⟨p.1, 3, none⟩ = false := (blk_frozen hTQ 3).trans rfl
        refine Wn.seq (Wn.reg (by simp [base]) (by rw [hfz]; kernel_rfl) ?_)
        go_wp2_with fail
        refine ⟨rfl, ?_⟩
        clear q3 z3
        have hTT : (uQ.setCell ⟨p.1, 3, none⟩ (num 0)).heap[p.1]? = some (.cells (tCells L.W j p.2 ⟨0, (tc j).cell, (tc j).op, (tc j).seen⟩) 92 (2, 3)) := blk_set hTQ 3 _
        have hoT : ∀ b, b ≠ p.1 → (uQ.setCell ⟨p.1, 3, none⟩ (num 0)).heap[b]? = uQ.heap[b]? := fun b hb => blk_set_ne (a := ⟨p.1, 3, none⟩) hb _
        have hsT : (uQ.setCell ⟨p.1, 3, none⟩ (num 0)).heap.size = uQ.heap.size := size_set _ _
        have hosT : (uQ.setCell ⟨p.1, 3, none⟩ (num 0)).os = uQ.os := rfl
        have houtT : (uQ.setCell ⟨p.1, 3, none⟩ (num 0)).output = uQ.output := rfl
        have hW8T : (uQ.setCell ⟨p.1, 3, none⟩ (num 0)).cell? ⟨L.W, 8, none⟩ = some (.chan (some L.back)) := by rw [World.cell?_setCell_other (h := by simp [Ne.symm hnWT])]; exact hW8
        have hbkT : open0 (uQ.setCell ⟨p.1, 3, none⟩ (num 0)) L.back := open0_setCell hbk
        generalize uQ.setCell ⟨p.1, 3, none⟩ (num 0) = uT at hTT hoT hsT hosT houtT hW8T hbkT ⊢
        have q2 : uT.cell? ⟨p.1, 2, none⟩ = some (.chan (some p.2)) := (blk_cell hTT 2).trans rfl
        refine Wn.seq (Wn.open ?_)
        refine Wn.span1 0 5 6 (by simp [base]) (by decide) (by decide) (by rw [hfz]; kernel_rfl) ?_
        simp only [List.take, List.drop]
        go_wp2_with fail
        refine ⟨rfl, ?_⟩
        clear q2
        have hC := HC.out
        clear HC
        subst hC
        have hmem : p ∈ ts := List.mem_of_getElem? hpj
        have hgm : (L.back :: ts.map (·.2)).Nodup := hr1.nodup
        refine Wn.give_to (j := L.N0 + j) (s := seatT p (recs j)) (fun r => ∃ fr0 fs0, r = gr fr0 fs0 ∧ ∀ u C, MainAt L (Qn L n) (Is (advS j pk.resume (s.picked L.sched j)).1 (pks.set j (advS j pk.resume (s.picked L.sched j)).2)) u C → Wn C (fr0.finish (.agg #[])) fs0 u) L.back (.agg #[]) [(⟨L.W, 8, none⟩, .chan (some L.back))] (by simp [base]) rfl rfl rfl rfl ?_ rfl rfl ?_ ?_ hbkT ?_ ?_ hrec ?_ ?_
        · show seats L ts pks recs none (L.N0 + j) = _
          unfold seats
          rw [if_neg (by have := hh.N0; omega), if_neg (by omega), Nat.add_sub_cancel_left]
          unfold seatAt
          rw [hpj, hkj]
          simp [hsit]
        · show gd L ts p.2 = none
          unfold gd
          rw [if_neg, if_neg (Ne.symm (ne_of_chan hr1.w (hr1.goes p hmem)))]
          intro hm
          obtain ⟨q, hq, e⟩ := List.mem_map.1 hm
          obtain ⟨k, hk⟩ := List.mem_iff_getElem?.1 hq
          exact ne_of_chan (hr1.t k q hk) (hr1.goes p hmem) e
        · intro q hq
          simp only [List.mem_singleton] at hq
          subst hq
          exact hW8T
        · intro x s' hx
          change seats L ts pks recs none x = some s' at hx
          unfold seats at hx
          split at hx
          · cases hx
          · split at hx
            · cases hx
            · obtain ⟨q, pk', h1, h2, h3, rfl⟩ := seatAt_some hx
              intro e
              exact (List.nodup_cons.1 hgm).1 (by rw [← show q.2 = L.back from e]; exact List.mem_map_of_mem (f := (·.2)) (List.mem_of_getElem? h1))
        · intro q hq
          simp only [List.mem_singleton] at hq
          subst hq
          refine ⟨(8, 9), ?_, by simp, by simp⟩
          show gd L ts L.W = some (8, 9)
          unfold gd
          rw [if_neg hh.hW, if_pos rfl]
        · refine Heads.ctl (fun w => stepG_region_end) ?_
          refine Heads.ctl (fun w => stepG_seq) ?_
          refine Heads.ctl (fun w => stepG_region) ?_
          refine Heads.move rfl rfl (by simp [base]) rfl ?_
          refine Heads.nilCheck (ad := ⟨L.W, 0, none⟩) rfl rfl (by simp [base]) rfl rfl ?_
          refine Heads.fieldAddr rfl rfl (by simp [base]) rfl rfl (field_back L.W) ?_
          refine Heads.load (v := .chan (some L.back)) rfl rfl (by simp [base]) rfl rfl (by simp) (load_chan _ L.back) ?_
          refine Heads.recv rfl rfl (by simp [base]) rfl Try.underlying77 (by kernel_rfl) rfl ?_
          refine ⟨_, _, rfl, fun u' C' hat => ?_⟩
          have hfz' : C'.fz = true := by
            obtain ⟨ts, tc, s, vth, vtr, oc, pks, recs, Cl, h, hC, _⟩ := hat
            rw [hC]; rfl
          rw [Frame.finish_at]
          refine Wn.region_end ?_
          have HAT : Hid _ := hat
          have HGO : Hid _ := hgo.out u' C' hat
          clear hat hgo hb hroom
          refine Wn.seq (Wn.reg (by simp [base]) (by rw [hfz']; kernel_rfl) ?_)
          go_wp2_with fail
          refine ⟨rfl, ?_⟩
          refine Wn.ret ?_
          refine Wn.back rfl rfl Try.func102 (results_tmp rfl _ _ _) ?_
          exact HGO.out
        · rintro r ⟨fr0, fs0, hr0, hback⟩ hc kk
          exact goes102 hhQ hpj hkj hsit hTT hoT hsT hosT houtT hrec rfl hb hroom hnb hr0 hback hc kk
  · rintro a u1 C1 ⟨_, i, v, wt, hwt, hf, _⟩
    omega
end
end Go.Proofs.Ytoabkcalphpkhaa

/- A thread is made: what stays, who sits where. -/
namespace Go.Proofs.Ytoabkcalphpkhaa
open Go Go.Conc Go.RowKit
open Go.Proofs.YtoabkcalphpkhaaW.PrintWords
set_option linter.unusedVariables false
set_option linter.unusedSimpArgs false
set_option linter.unusedSectionVars false
set_option maxRecDepth 100000

section
variable {L : Lay} {Q Q' : PQ} {n : Nat} {u u3 : World} {ts : List (Nat × Nat)} {tc : Nat → TC} {s : Sys} {vth vth' vtr : Value} {oc : Array Value} {pks : List Park} {recs : Nat → Goroutine} {Cl : Nat → Nat → Option Obj} {F : Nat → Prop} {C : Ctx Try.prog}

theorem Held.lessQ (h : Held L Q ts tc s vth vtr oc pks recs Cl F u) (hq : ∀ j T pk r c, Q j T pk r c → Q' j T pk r c) : Held L Q' ts tc s vth vtr oc pks recs Cl F u :=
  ⟨h.lens, h.rep, h.heaps, h.ro, h.idle, h.N0, h.ton, fun j p pk h1 h2 => ⟨(h.par j p pk h1 h2).1, fun hs => hq _ _ _ _ _ ((h.par j p pk h1 h2).2.1 hs), (h.par j p pk h1 h2).2.2⟩⟩
theorem MainAt.less {K : Sys → List Park → Prop} (h : MainAt L Q K u C) (hq : ∀ j T pk r c, Q j T pk r c → Q' j T pk r c) : MainAt L Q' K u C := by
  obtain ⟨ts, tc, s, vth, vtr, oc, pks, recs, Cl, h, hC, hK⟩ := h
  exact ⟨ts, tc, s, vth, vtr, oc, pks, recs, Cl, h.lessQ hq, hC, hK⟩
theorem Qn_succ {j T : Nat} {pk : Park} {r : Goroutine} {c : Nat → Option Obj} (h : Qn L (n + 1) j T pk r c) : Qn L n j T pk r c := h.1
theorem Qn_zero : ∀ (n : Nat) {j T : Nat} {pk : Park} {r : Goroutine} {c : Nat → Option Obj}, Qn L n j T pk r c → Qn L 0 j T pk r c
  | 0, _, _, _, _, _, h => h
  | n + 1, _, _, _, _, _, h => Qn_zero n h.1

theorem getElem?_snoc_lt {α : Type} {l : List α} {x : α} {j : Nat} (h : j < l.length) : (l ++ [x])[j]? = l[j]? := List.getElem?_append_left h
theorem getElem?_snoc {α : Type} {l : List α} {x : α} : (l ++ [x])[l.length]? = some x := by simp
theorem getElem?_snoc_some {α : Type} {l : List α} {x y : α} {j : Nat} (h : (l ++ [x])[j]? = some y) : (j < l.length ∧ l[j]? = some y) ∨ (j = l.length ∧ y = x) := by
  have hj := (List.getElem?_eq_some_iff.1 h).1
  simp only [List.length_append, List.length_singleton] at hj
  by_cases e : j < l.length
  · rw [getElem?_snoc_lt e] at h; exact .inl ⟨e, h⟩
  · have e : j = l.length := by omega
    subst e
    rw [getElem?_snoc] at h
    exact .inr ⟨rfl, (Option.some.inj h).symm⟩

set_option maxHeartbeats 1000000 in
theorem Held.spawn (h : Held L Q ts tc s vth vtr oc pks recs Cl (fun _ => False) u) (hon : ts.length + 1 ≤ L.on) {T g : Nat} (hT : u3.heap[T]? = some (.cells (tCells L.W ts.length g ⟨0, 0, 0, 0⟩) 92 (2, 3))) (hg : open0 u3 g) (hTn : u.heap.size ≤ T) (hgn : u.heap.size ≤ g)
    (hW : u3.heap[L.W]? = some (.cells (wCells L s vth' vtr) 80 (8, 9))) (hth : Row kP 45 u3 vth' (ts.map (·.1) ++ [T])) (hown : ∀ k, vth'.ownBlock = some k → vth.ownBlock = some k ∨ u.heap.size ≤ k)
    (ho : ∀ b, b < u.heap.size → b ≠ L.W → vth.ownBlock ≠ some b → u3.heap[b]? = u.heap[b]?) (hsz : u.heap.size ≤ u3.heap.size) (hos : u3.os = u.os) (hout : u3.output = u.output) :
    Held L Q (ts ++ [(T, g)]) (fun j => if j = ts.length then ⟨0, 0, 0, 0⟩ else tc j) s vth' vtr oc (pks ++ [.bad]) recs Cl (fun _ => False) u3 := by
  have hr := h.rep
  have hlen := h.lens
  have cells : ∀ {b t : Nat} {ca : Array Value} {z : Nat × Nat}, u.heap[b]? = some (.cells ca t z) → t ≠ 80 → t ≠ 45 → u3.heap[b]? = u.heap[b]? := fun hb h8 h4 => ho _ (blk_lt hb) (ne_of_ty hb hr.w h8) fun e => own_ne hr.th hb (Ne.symm h4) e rfl
  have chans : ∀ {b : Nat}, open0 u b → open0 u3 b := by
    intro b hb
    have hb' := hb
    obtain ⟨k, hk⟩ := hb'
    exact ⟨k, (ho b (blk_lt hk) (Ne.symm (ne_of_chan hr.w hb)) fun e => own_chan hr.th hb e rfl).trans hk⟩
  have hrep : Rep L (ts ++ [(T, g)]) (fun j => if j = ts.length then ⟨0, 0, 0, 0⟩ else tc j) s vth' vtr oc u3 := by
    refine { os := hos.trans hr.os, outp := hout.trans hr.outp, w := hW, t := fun j q hq => ?_, c := fun k b hk => (cells (hr.c k b hk) (by decide) (by decide)).trans (hr.c k b hk), th := by rw [List.map_append]; exact hth,
             tr := Row.move flat_k40 hr.tr fun k hk => ?_, ch := Row.move flat_kI hr.ch fun k hk => ?_, o := (cells hr.o (by decide) (by decide)).trans hr.o, back := chans hr.back, goes := fun q hq => ?_,
             nlen := hr.nlen, vlen := hr.vlen, clen := hr.clen, olen := hr.olen, nodup := ?_, in64 := hr.in64, chb := hr.chb }
    · rcases getElem?_snoc_some hq with ⟨h1, h2⟩ | ⟨rfl, rfl⟩
      · rw [if_neg (by omega)]
        exact (cells (hr.t j q h2) (by decide) (by decide)).trans (hr.t j q h2)
      · rw [if_pos rfl]; exact hT
    · obtain ⟨c', h'⟩ := own_ty hr.tr hk; exact cells h' (by decide) (by decide)
    · obtain ⟨c', h'⟩ := own_ty hr.ch hk; exact cells h' (by decide) (by decide)
    · rcases List.mem_append.1 hq with h1 | h1
      · exact chans (hr.goes q h1)
      · rw [List.mem_singleton] at h1; subst h1; exact hg
    · have hnd := hr.nodup
      rw [List.map_append, List.map_singleton, ← List.cons_append]
      refine List.nodup_append.2 ⟨hnd, by simp, fun a ha b hb => ?_⟩
      have hb : b = g := List.mem_singleton.1 hb
      rw [hb]
      have hlt : a < u.heap.size := by
        rcases List.mem_cons.1 ha with e | e
        · obtain ⟨k, hk⟩ := hr.back; rw [e]; exact blk_lt hk
        · obtain ⟨q, hq, e⟩ := List.mem_map.1 e
          obtain ⟨k, hk⟩ := hr.goes q hq
          rw [← e]; exact blk_lt hk
      omega
  refine ⟨by simp [hlen], hrep, h.heaps.step (fun b hs => ?_) (fun b h1 _ h3 => ho b h3 (fun e => h1 (.inl e)) fun e => h1 (.inr (.inr (.inr (.inr (.inr (.inr (.inl e)))))))) hsz, h.ro, fun j hj b => h.idle j (by simp at hj; omega) b, h.N0, by simp; exact hon, fun j p pk h1 h2 => ?_⟩
  · rcases hs with e | e | e | e | e | e | e | e
    · exact .inl (.inl e)
    · exact .inl (.inr (.inl e))
    · exact .inl (.inr (.inr (.inl e)))
    · exact .inl (.inr (.inr (.inr (.inl e))))
    · exact .inl (.inr (.inr (.inr (.inr (.inl e)))))
    · obtain ⟨q, hq, e⟩ := e
      rcases List.mem_append.1 hq with h1 | h1
      · exact .inl (.inr (.inr (.inr (.inr (.inr (.inl ⟨q, h1, e⟩))))))
      · rw [List.mem_singleton] at h1
        subst h1
        right
        rcases e with e | e <;> rw [e] <;> assumption
    · rcases hown b e with e' | e'
      · exact .inl (.inr (.inr (.inr (.inr (.inr (.inr (.inl e')))))))
      · exact .inr e'
    · exact .inl (.inr (.inr (.inr (.inr (.inr (.inr (.inr e)))))))
  · rcases getElem?_snoc_some h2 with ⟨h3, h4⟩ | ⟨h3, rfl⟩
    · rw [getElem?_snoc_lt (by omega)] at h1
      simp only [if_neg (show ¬ j = ts.length by omega)]
      exact h.par j p pk h1 h4
    · exact ⟨trivial, (fun h => by cases h), fun out h => by cases h⟩

/-- The context in which a thread is being made. -/
def ctxS (L : Lay) (ts ts' : List (Nat × Nat)) (pks : List Park) (recs : Nat → Goroutine) (hcov : ∀ i s, seats L ts pks recs none i = some s → ∀ p ∈ s.cells, (gd L ts').has p.1) : Ctx Try.prog where
  Post := L.Post
  N := L.N0 + ts.length
  h := 0
  I := seats L ts pks recs none
  Gd := gd L ts'
  fz := true
  S := S0
  list := list0
  thaw h := by cases h
  cover := hcov
theorem gd_snoc {p : Nat × Nat} {b : Nat} (h : p.1 ≠ b) : gd L (ts ++ [p]) b = gd L ts b := by
  unfold gd
  have : (b ∈ (ts ++ [p]).map (·.1)) ↔ b ∈ ts.map (·.1) := by
    rw [List.map_append, List.mem_append, List.map_singleton, List.mem_singleton]
    exact ⟨fun h' => h'.elim (fun h => h) fun e => absurd e.symm h, .inl⟩
  simp only [this]
theorem covS {p : Nat × Nat} (hW : L.W ∉ ts.map (·.1)) (hp : ∀ i s, seats L ts pks recs none i = some s → ∀ q ∈ s.cells, q.1.block ≠ p.1) : ∀ i s, seats L ts pks recs none i = some s → ∀ q ∈ s.cells, (gd L (ts ++ [p])).has q.1 := by
  intro i s h q hq
  obtain ⟨r, h1, h2⟩ := seats_cover hW i s h q hq
  exact ⟨r, by rw [gd_snoc (Ne.symm (hp i s h q hq))]; exact h1, h2⟩
theorem nextS {p : Nat × Nat} {r0 : Goroutine} (hlen : pks.length = ts.length) {hcov} (hc) (hW' : L.W ∉ (ts ++ [p]).map (·.1)) :
    (ctxS L ts (ts ++ [p]) pks recs hcov).next ((ctxS L ts (ts ++ [p]) pks recs hcov).N + 1) (ctxS L ts (ts ++ [p]) pks recs hcov).N ((ctxS L ts (ts ++ [p]) pks recs hcov).I.set 0 (some (seatM L r0))) hc = ctxOf L (ts ++ [p]) (pks ++ [.bad]) recs (some r0) (L.N0 + ts.length) hW' := by
  have e : ((ctxS L ts (ts ++ [p]) pks recs hcov).I.set 0 (some (seatM L r0))) = seats L (ts ++ [p]) (pks ++ [.bad]) recs (some r0) := by
    funext x
    unfold Seats.set
    show (if x = 0 then _ else seats L ts pks recs none x) = _
    unfold seats
    by_cases e0 : x = 0
    · rw [if_pos e0, if_pos e0]; rfl
    · rw [if_neg e0, if_neg e0, if_neg e0]
      split
      · rfl
      · generalize x - L.N0 = j
        unfold seatAt
        by_cases e1 : j < ts.length
        · rw [getElem?_snoc_lt e1, getElem?_snoc_lt (by omega)]
        · rw [List.getElem?_eq_none (l := ts) (by omega)]
          by_cases e2 : j = ts.length
          · subst e2
            rw [getElem?_snoc, ← hlen, getElem?_snoc]
            rfl
          · rw [List.getElem?_eq_none (l := ts ++ [p]) (by simp; omega)]
  have hN : (ctxS L ts (ts ++ [p]) pks recs hcov).N + 1 = L.N0 + (ts ++ [p]).length := by show L.N0 + ts.length + 1 = _; simp; omega
  unfold Ctx.next ctxOf
  congr

/-- A go statement: its maker goes on to a seat; what goes on there is known by what it does. -/
theorem Wn.hire_to {C : Ctx Try.prog} {cs : List Frame} {u : World} {b : Frame} {a : Act} {k : List Item} {ops : Array Oper} {i : Nat} {rest : List Nat} {o : Oper} (Res : Goroutine → Prop) (g : Nat) (z : Value) (cells : List (Addr × Value))
    (hb : b.kind ≠ .early) (ho : ops[i]? = some o) (hw : Region.wanted o (yielded ops a.tmps) = true) (hd : o.dst = none) {dd : Deferred} {f : Fn} {cap : Array Value} (hdt : dd.target = .fn f cap)
    (hr : ∀ w, (execOp a.eval o).runT Try.prog w #[] = (.ok (.spawn dd) w, #[])) (hrd : ∀ p ∈ cells, u.cell? p.1 = some p.2) (hch : open0 u g) (hown : ∀ i s', C.I i = some s' → s'.c ≠ g) (hcov : ∀ p ∈ cells, C.Gd.has p.1)
    (hway : Heads (C.h == 0) g z cells Res (gr (b.at a (.inRegion ops rest :: k)) cs))
    (h : ∀ r, Res r → ∀ hc, Wn (C.next (C.N + 1) C.N (C.I.set C.h (some ⟨g, z, r, cells⟩)) hc) (born Try.prog dd).frame [] u) : Wn C (b.at a (.inRegion ops (i :: rest) :: k)) cs u := by
  obtain ⟨r, n, hres, hw'⟩ := hway
  exact Wn.hire (s' := ⟨g, z, r, cells⟩) hb ho hw hd hdt hr ⟨hrd, hch, hown⟩ hw' hcov (h r hres)

theorem set_snoc {α : Type} (l : List α) (x y : α) : (l ++ [x]).set l.length y = l ++ [y] := by
  rw [List.set_append_right _ _ (Nat.le_refl _)]; simp
end
end Go.Proofs.Ytoabkcalphpkhaa

/- (*World).Run: the threads are made, one behind the other; then the turns. (Printed by gen_run77.py.) -/
namespace Go.Proofs.Ytoabkcalphpkhaa
open Go Go.Conc Go.RowKit
open Go.Proofs.YtoabkcalphpkhaaW.PrintWords
set_option linter.unusedVariables false
set_option linter.unusedSimpArgs false
set_option linter.unusedSectionVars false
set_option maxRecDepth 100000

theorem like_frz {G G' : Guard} {T e : Nat} {c : Array Value} {r : Nat × Nat} {w U U' : World} (h : Like G w U) (hG' : G' T = some r) (hG : G T = none) (hoG : ∀ b, b ≠ T → G' b = G b) (hT : U.heap[T]? = some (.cells c e (0, 0))) (hT' : U'.heap[T]? = some (.cells c e r)) (ho : ∀ b, b ≠ T → U'.heap[b]? = U.heap[b]?)
    (hs : U'.heap.size = U.heap.size) (hos : U'.os = U.os) (hout : U'.output = U.output) : Like G' w U' := by
  refine ⟨hos.trans h.os, hout.trans h.out, hs.trans h.size, fun b hb => ?_, fun b r' hb => ?_⟩
  · have hne : b ≠ T := fun e => by rw [e, hG'] at hb; cases hb
    rw [ho b hne]
    exact h.blk b (by rw [← hoG b hne]; exact hb)
  · by_cases e : b = T
    · subst e
      rw [hG'] at hb
      cases hb
      exact ⟨c, _, (h.blk b hG).symm.trans hT, hT'⟩
    · obtain ⟨c', e', h1, h2⟩ := h.grd b r' (by rw [← hoG b e]; exact hb)
      exact ⟨c', e', h1, (ho b e).trans h2⟩

theorem info99 : (Try.prog.info? 99).map (·.bytes) = some 0 := by kernel_rfl
theorem make_chan {a : Act} {o : Oper} {x : Operand} (ho : o.op = .makeChan 77 x) (hx : a.eval x = num 0) (w : World) : (execOp a.eval o).run Try.prog w = .ok (.value (.chan (some w.heap.size))) (w.alloc (.chan 0 #[] false 0 0 false)) := by
  obtain ⟨i0, hi, hb⟩ := Option.map_eq_some_iff.1 info99
  have hr := run_makeChan (P := Try.prog) (w := w) Try.underlying77 hi .i64 0 (by omega) (by rw [hb]; decide)
  have hr' : (Instr.makeChan 77 (.int .i64 0)).run Try.prog w = .ok (.chan (some w.heap.size)) (w.alloc (.chan 0 #[] false 0 0 false)) := hr
  simp [execOp, ho, hx, hr']

theorem run_done {sched : List Int} {n : Nat} {s : Sys} {pks : List Park} {fin : Sys × List Park} (h : run sched (n + 1) s pks = some fin) (h1 : readyL s pks = []) (h2 : pks.any Park.waits = false) : fin = (s, pks) := by
  simp only [run, h1, h2, if_true, Bool.false_eq_true, if_false] at h
  exact (Option.some.inj h).symm
theorem run_jam {sched : List Int} {n : Nat} {s : Sys} {pks : List Park} {fin : Sys × List Park} (h : run sched (n + 1) s pks = some fin) (h1 : readyL s pks = []) (h2 : pks.any Park.waits = true) : run sched n s.jam pks = some fin := by
  simp only [run, h1, h2, if_true] at h
  exact h
theorem run_go {sched : List Int} {n : Nat} {s : Sys} {pks : List Park} {fin : Sys × List Park} (h : run sched (n + 1) s pks = some fin) (h1 : readyL s pks ≠ []) {j : Nat} {r : Sys × Park} (hj : j = pickOf sched s (readyL s pks)) (hr : r = advS j (pks.getD j .bad).resume (s.picked sched j)) :
    r.2.isBad = false ∧ run sched n r.1 (pks.set j r.2) = some fin := by
  simp only [run] at h
  rw [if_neg h1, ← hj, ← hr] at h
  cases hb : r.2.isBad with
  | true => rw [hb] at h; simp at h
  | false => rw [hb] at h; simp only [Bool.false_eq_true, if_false] at h; exact ⟨rfl, h⟩

section
variable {L : Lay} {u : World} {C : Ctx Try.prog} {fr : Frame} {cs : List Frame}
set_option maxHeartbeats 4000000 in
theorem run77 {N pn : Nat} {procs : List Proc} {bods : List Value} {BA : Option Addr} {bcp : Nat} (hon : L.on ≤ 1000) (hpn : pn = procs.length) (hk : procs.length ≤ L.on) (hbl : bods.length = procs.length) (hsch : Sched L)
    (hbod : ∀ w : World, (∀ b o, L.ro b = some o → w.heap[b]? = some o) → ∀ (i : Nat) (bv : Value), bods[i]? = some bv → ∃ ad, BA = some ad ∧ w.cell? (ad.add i) = some bv) (hfn : ∀ bv ∈ bods, ∃ f caps, bv = .func f #[] caps)
    (hlife : ∀ (i T : Nat) (p : Proc) (bv : Value) (F : Nat → Prop) (u : World) (C : Ctx Try.prog), procs[i]? = some p → bods[i]? = some bv → AtF L (Qn L N) i T (.go p) F u C → Wn C (born Try.prog (lifeD T bv)).frame [] u)
    {s0 : Sys} {fin : Sys × List Park} (hrun : spawn L.sched N procs s0 [] = some fin) (hroom : fin.1.trace.length ≤ roomB) (hW7 : u.cell? ⟨L.W, 7, none⟩ = some (.bool false)) (hz7 : u.frozen? ⟨L.W, 7, none⟩ = false)
    (h0 : MainAt L (Qn L N) (Is s0 []) (u.setCell ⟨L.W, 7, none⟩ (.bool true)) C)
    (hn : ∀ u' C', MainAt L (Qn L 0) (Is fin.1 fin.2) u' C' → Wn C' (fr.finish (.tuple #[])) cs u') :
    Wn C (Frame.enter Try.prog 77 #[ptr L.W, .slice BA pn bcp] .normal) (fr :: cs) u := by
  subst hpn
  have hfz : C.fz = true := by
    obtain ⟨ts, tc, s, vth, vtr, oc, pks, recs, Cl, h, hC, _⟩ := h0
    rw [hC]; rfl
  have HRUN : Hid _ := hrun
  have hrun := ()
  refine Wn.body Try.func77 rfl ?_
  simp only [Try.ntmps77, List.size_toArray, List.length_cons, List.length_nil, Nat.reduceAdd, Nat.reduceSub, Array.replicate_succ, Array.replicate_zero, List.push_toArray, List.append_toArray, List.nil_append, List.cons_append]
  refine Wn.seq (Wn.seq (Wn.reg (by simp [base]) (by rw [hfz]; kernel_rfl) ?_))
  go_wp2_with fail
  refine ⟨rfl, ?_⟩
  refine Wn.cond rfl ?_
  simp only [Bool.false_eq_true, if_false]
  refine Wn.skip (Wn.seq (Wn.seq (Wn.reg (by simp [base]) (by rw [hfz]; kernel_rfl) ?_)))
  go_wp2_with fail
  refine ⟨rfl, ?_⟩
  refine Wn.cond rfl ?_
  simp only [Bool.false_eq_true, if_false]
  refine Wn.skip (Wn.seq (Wn.reg (by simp [base]) (by rw [hfz]; kernel_rfl) ?_))
  go_wp2_with fail
  refine ⟨rfl, ?_⟩
  clear hW7 hz7
  generalize u.setCell ⟨L.W, 7, none⟩ (.bool true) = u at h0 ⊢
  refine Wn.seq (Wn.seq (Wn.reg (by simp [base]) (by rw [hfz]; kernel_rfl) ?_))
  go_wp2_with fail
  refine ⟨rfl, ?_⟩
  refine Wn.block ?_
  refine Wn.loop_ind (f := procs.length - 0 + 1) (fun f a u1 C1 => ∃ (i : Nat) (s : Sys) (pks : List Park), f = procs.length - i + 1 ∧ i ≤ procs.length ∧ pks.length = i ∧ Hid (spawn L.sched N (procs.drop i) s pks = some fin) ∧ (∀ pk ∈ pks, pk.isBad = false) ∧ MainAt L (Qn L N) (Is s pks) u1 C1 ∧ ∃ x7 x8 x9 x33 x34 x35 x36 x37 x38 x39 x40 x41 x42 x43 x44 x45 x46 x47 x48 x49 x50 x51 x52 x53 x54 x55 x56 x57 x58 x59, a = { tmps := #[ptr L.W, .slice BA procs.length bcp, undef, undef, undef, undef, undef, x7, x8, x9, ptr L.W, .bool false, undef, undef, undef, undef, undef, undef, undef, undef, undef, undef, undef, ptr L.W, .pointer (some ⟨L.W, 0, none⟩), .pointer (some ⟨L.W, 7, none⟩), .bool false, ptr L.W, .pointer (some ⟨L.W, 0, none⟩), .pointer (some ⟨L.W, 7, none⟩), .slice BA procs.length bcp, num procs.length, num i, x33, x34, x35, x36, x37, x38, x39, x40, x41, x42, x43, x44, x45, x46, x47, x48, x49, x50, x51, x52, x53, x54, x55, x56, x57, x58, x59, undef, undef], defers := [] }) ?_ ?_ ⟨0, s0, [], rfl, Nat.zero_le _, rfl, HRUN, (fun pk h => by cases h), h0, _, _, _, _, _, _, _, _, _, _, _, _, _, _, _, _, _, _, _, _, _, _, _, _, _, _, _, _, _, _, rfl⟩
  · rintro f ih a u1 C1 ⟨i, s, pks, hf, hi, hpl, hsp, hnb, hmain, x7, x8, x9, x33, x34, x35, x36, x37, x38, x39, x40, x41, x42, x43, x44, x45, x46, x47, x48, x49, x50, x51, x52, x53, x54, x55, x56, x57, x58, x59, rfl⟩
    have hfz1 : C1.fz = true := by
      obtain ⟨ts, tc, s, vth, vtr, oc, pks, recs, Cl, h, hC, _⟩ := hmain
      rw [hC]; rfl
    by_cases hend : i < procs.length
    · have hpi : procs[i]? = some procs[i] := List.getElem?_eq_getElem hend
      have hdrop : procs.drop i = procs[i] :: procs.drop (i + 1) := List.drop_eq_getElem_cons hend
      have hbi : bods[i]? = some bods[i] := List.getElem?_eq_getElem (by omega)
      obtain ⟨bf, bcaps, hbv⟩ := hfn bods[i] (List.getElem_mem _)
      rw [hbv] at hbi
      clear hbv
      rw [hdrop] at hsp
      generalize procs[i] = p at hpi hsp
      have hlifei := hlife i
      have hsp := hsp.out
      simp only [spawn, hpl] at hsp
      obtain ⟨r, hr⟩ : ∃ r, Hid (r = adv i p s) := ⟨_, rfl⟩
      rw [← hr.out] at hsp
      have hrb : r.2.isBad = false := by
        cases hb : r.2.isBad with
        | false => rfl
        | true => rw [hb] at hsp; simp at hsp
      rw [hrb] at hsp
      simp only [Bool.false_eq_true, if_false] at hsp
      have hrroom : r.1.trace.length ≤ roomB := Nat.le_trans (spawn_longer _ _ _ _ _ fin.1 fin.2 hsp) hroom
      have HSP : Hid _ := hsp
      clear hsp
      obtain ⟨ts, tc, s, vth, vtr, oc, pks, recs, Cl, hh, hC, rfl, rfl⟩ := hmain
      have HC : Hid _ := hC
      clear hC
      have htl : ts.length = i := by rw [← hh.lens]; exact hpl
      have hr1 := hh.rep
      obtain ⟨ad, rfl, q0⟩ := hbod u1 (fun b o ho => hh.heaps.cl 0 b o (by rw [hh.ro]; exact ho)) i _ hbi
      have d1 : decide ((i : Int) < (procs.length : Int)) = true := decide_eq_true (by omega)
      have HTL : Hid (ts.length = i) := htl
      have HPL : Hid (pks.length = i) := hpl
      have HBI : Hid _ := hbi
      have HPI : Hid _ := hpi
      have HNB : Hid _ := hnb
      clear htl hpl hbi hpi hdrop hbl
      refine Wn.seq (Wn.reg (by simp [base]) (by rw [hfz1]; kernel_rfl) ?_)
      go_wp2_with fail
      refine ⟨rfl, ?_⟩
      refine Wn.seq (Wn.cond rfl ?_)
      simp only [if_true]
      clear d1
      have d1 : decide ((i : Int) < (procs.length : Int)) = true := decide_eq_true (by omega)
      have d2 : decide ((0 : Int) ≤ (i : Int)) = true := decide_eq_true (by omega)
      have d3 : (i : Int) < (procs.length : Int) := by omega
      have d4 : (0 : Int) ≤ (i : Int) := by omega
      refine Wn.skip (Wn.seq (Wn.block ?_))
      refine Wn.seq (Wn.reg (by simp [base]) (by rw [hfz1]; kernel_rfl) ?_)
      go_wp2_with fail
      refine ⟨rfl, ?_⟩
      clear d1 d2 d3 d4 q0
      refine Wn.seq (Wn.open ?_)
      refine Wn.span1 0 2 6 (by simp [base]) (by decide) (by decide) (by rw [hfz1]; kernel_rfl) ?_
      simp only [List.take, List.drop]
      go_wp2_with fail
      refine ⟨rfl, ?_⟩
      refine Wn.opT 2 4 3 rfl (by simp [base]) rfl (by rw [hfz1]; rfl) fun τ d => ?_
      refine wpList_plain rfl fun K hK => ?_
      unfold Oper.wp
      rw [make_chan rfl rfl]
      refine hK _ _ (?_ : Wn C1 _ _ _)
      refine Wn.on (u := u1.alloc (.chan 0 #[] false 0 0 false)) ?_ τ d
      clear hK K
      refine Wn.span1 3 3 3 (by simp [base]) (by decide) (by decide) (by rw [hfz1]; kernel_rfl) ?_
      simp only [List.take, List.drop]
      go_wp2_with fail
      refine ⟨rfl, ?_⟩
      refine Wn.range_end ?_
      have hC := HC.out
      clear HC
      subst hC
      have hlt : ∀ q ∈ ts, q.1 < u1.heap.size := fun q hq => by obtain ⟨k, hk⟩ := List.mem_iff_getElem?.1 hq; exact blk_lt (hr1.t k q hk)
      have hWlt := blk_lt hr1.w
      have hcov : ∀ x s', seats L ts pks recs none x = some s' → ∀ q ∈ s'.cells, q.1.block ≠ u1.heap.size + 1 := by
        intro x s' hx q hq
        unfold seats at hx
        split at hx
        · cases hx
        · split at hx
          · cases hx
          · obtain ⟨q', pk', h1, h2, h3, rfl⟩ := seatAt_some hx
            simp only [seatT, List.mem_singleton] at hq
            subst hq
            have := hlt q' (List.mem_of_getElem? h1)
            show q'.1 ≠ _
            omega
      have hs1 : (u1.alloc (.chan 0 #[] false 0 0 false)).heap.size = u1.heap.size + 1 := Array.size_push ..
      have hgT : gd L ts (u1.heap.size + 1) = none := by
        unfold gd
        rw [if_neg (fun hm => by obtain ⟨q, hq, e⟩ := List.mem_map.1 hm; have := hlt q hq; omega), if_neg (by omega)]
      have hA : ((u1.alloc (.chan 0 #[] false 0 0 false)).alloc (.cells (tCells L.W i u1.heap.size ⟨0, 0, 0, 0⟩) 92 (0, 0))).heap[u1.heap.size + 1]? = some (.cells (tCells L.W i u1.heap.size ⟨0, 0, 0, 0⟩) 92 (0, 0)) := heap_alloc2_new ..
      have hB : ((u1.alloc (.chan 0 #[] false 0 0 false)).alloc (.cells (tCells L.W i u1.heap.size ⟨0, 0, 0, 0⟩) 92 (2, 3))).heap[u1.heap.size + 1]? = some (.cells (tCells L.W i u1.heap.size ⟨0, 0, 0, 0⟩) 92 (2, 3)) := heap_alloc2_new ..
      have hO : ∀ b, b ≠ u1.heap.size + 1 → ((u1.alloc (.chan 0 #[] false 0 0 false)).alloc (.cells (tCells L.W i u1.heap.size ⟨0, 0, 0, 0⟩) 92 (2, 3))).heap[b]? = ((u1.alloc (.chan 0 #[] false 0 0 false)).alloc (.cells (tCells L.W i u1.heap.size ⟨0, 0, 0, 0⟩) 92 (0, 0))).heap[b]? := fun b hb => by
        show (Array.push _ _)[b]? = (Array.push _ _)[b]?
        rw [Array.getElem?_push, Array.getElem?_push, if_neg (by rw [hs1]; exact hb), if_neg (by rw [hs1]; exact hb)]
      have hG : gd L (ts ++ [(u1.heap.size + 1, u1.heap.size)]) (u1.heap.size + 1) = some (2, 3) := by
        unfold gd
        rw [if_pos (by simp)]
      refine Wn.reguard (C' := ctxS L ts (ts ++ [(u1.heap.size + 1, u1.heap.size)]) pks recs (covS hh.hW hcov)) (u' := (u1.alloc (.chan 0 #[] false 0 0 false)).alloc (.cells (tCells L.W i u1.heap.size ⟨0, 0, 0, 0⟩) 92 (2, 3))) rfl rfl rfl rfl
        (fun w hw => like_frz hw hG hgT (fun b hb => gd_snoc (Ne.symm hb)) hA hB hO (by show (Array.push _ _).size = (Array.push _ _).size; rw [Array.size_push, Array.size_push]) rfl rfl) ?_
      clear hA hO
      have f1 : ∀ b, b < u1.heap.size → ((u1.alloc (.chan 0 #[] false 0 0 false)).alloc (.cells (tCells L.W i u1.heap.size ⟨0, 0, 0, 0⟩) 92 (2, 3))).heap[b]? = u1.heap[b]? := fun b hb => (heap_alloc (by rw [hs1]; omega)).trans (heap_alloc hb)
      have f2 : ((u1.alloc (.chan 0 #[] false 0 0 false)).alloc (.cells (tCells L.W i u1.heap.size ⟨0, 0, 0, 0⟩) 92 (2, 3))).heap[u1.heap.size]? = some (.chan 0 #[] false 0 0 false) := heap_alloc2_old ..
      have f4 : ((u1.alloc (.chan 0 #[] false 0 0 false)).alloc (.cells (tCells L.W i u1.heap.size ⟨0, 0, 0, 0⟩) 92 (2, 3))).heap.size = u1.heap.size + 2 := by show (Array.push _ _).size = _; rw [Array.size_push, hs1]
      have f5 : ((u1.alloc (.chan 0 #[] false 0 0 false)).alloc (.cells (tCells L.W i u1.heap.size ⟨0, 0, 0, 0⟩) 92 (2, 3))).os = u1.os := rfl
      have f6 : ((u1.alloc (.chan 0 #[] false 0 0 false)).alloc (.cells (tCells L.W i u1.heap.size ⟨0, 0, 0, 0⟩) 92 (2, 3))).output = u1.output := rfl
      generalize (u1.alloc (.chan 0 #[] false 0 0 false)).alloc (.cells (tCells L.W i u1.heap.size ⟨0, 0, 0, 0⟩) 92 (2, 3)) = u2 at hB f1 f2 f4 f5 f6 ⊢
      have F4 : Hid (u2.heap.size = u1.heap.size + 2) := f4
      clear f4
      have hfzS : (ctxS L ts (ts ++ [(u1.heap.size + 1, u1.heap.size)]) pks recs (covS hh.hW hcov)).fz = true := rfl
      obtain ⟨A, cp, eth, hPA, hmx⟩ := ptrs_of_row hr1.th
      rw [List.length_map] at eth hmx
      subst eth
      have hW2 : u2.heap[L.W]? = some (.cells (wCells L s (.slice A ts.length cp) vtr) 80 (8, 9)) := (f1 _ hWlt).trans hr1.w
      have w4 : u2.cell? ⟨L.W, 4, none⟩ = some (.slice A ts.length cp) := (blk_cell hW2 4).trans rfl
      refine Wn.seq (Wn.open ?_)
      refine Wn.span1 0 7 11 (by simp [base]) (by decide) (by decide) (by rw [hfzS]; kernel_rfl) ?_
      simp only [List.take, List.drop]
      go_wp2_with fail
      refine ⟨rfl, ?_⟩
      clear w4
      refine Wn.opT 7 4 3 rfl (by simp [base]) rfl rfl fun τ d => ?_
      refine append_thr (W := u2.on τ d) (p := u1.heap.size + 1) (s := .tmp 46) (x := .tmp 48) (v := .slice A ts.length cp) (acc := ts.map (·.1)) (ok := fun k => (Value.slice A ts.length cp).ownBlock = some k) rfl rfl rfl rfl (R_flat flat_kP hr1.th (fun k hk => f1 k (Kd.R_lt hr1.th k hk)) (fun k hk => hk)) (by rw [List.length_map]; have := HTL.out; omega) ?_
      intro v1 w1 hRw hgw hat
      obtain ⟨A1, c1, e1⟩ := Kd.R_slice hRw
      rw [show (ts.map (·.1) ++ [u1.heap.size + 1]).length = ts.length + 1 from by simp] at e1
      subst e1
      have f4 := F4.out
      have hown : ∀ k, (Value.slice A ts.length cp).ownBlock = some k → k < u1.heap.size ∧ k ≠ L.W := fun k hk => ⟨Kd.R_lt hr1.th k hk, own_ne hr1.th hr1.w (by decide) hk⟩
      have hWw : w1.heap[L.W]? = some (.cells (wCells L s (.slice A ts.length cp) vtr) 80 (8, 9)) := (hgw.block _ (show L.W < u2.heap.size by omega) fun e => (hown _ e.symm).2 rfl).trans hW2
      have w4 : w1.cell? ⟨L.W, 4, none⟩ = some (.slice A ts.length cp) := (blk_cell hWw 4).trans rfl
      have z4 : w1.frozen? ⟨L.W, 4, none⟩ = false := (blk_frozen hWw 4).trans rfl
      clear f4
      have RW : Hid _ := hRw
      have GW : Hid _ := hgw
      clear hRw hgw hat
      refine Wn.span1 8 3 3 (by simp [base]) (by decide) (by decide) (by rw [hfzS]; kernel_rfl) ?_
      simp only [List.take, List.drop]
      go_wp2_with fail
      refine ⟨rfl, ?_⟩
      clear w4 z4
      have f4 := F4.out
      have hRw := RW.out
      have hgw := GW.out
      clear RW GW
      have hTL := HTL.out
      subst hTL
      have hhS := hh.spawn (T := u1.heap.size + 1) (g := u1.heap.size) (u3 := w1.setCell ⟨L.W, 4, none⟩ (.slice A1 (ts.length + 1) c1)) (vth' := .slice A1 (ts.length + 1) c1) (by omega)
        ((blk_set_ne (a := ⟨L.W, 4, none⟩) (by show u1.heap.size + 1 ≠ L.W; omega) _).trans ((hgw.block _ (show u1.heap.size + 1 < u2.heap.size by omega) fun e => by have := (hown _ e.symm).1; omega).trans hB))
        ⟨0, (blk_set_ne (a := ⟨L.W, 4, none⟩) (by show u1.heap.size ≠ L.W; omega) _).trans ((hgw.block _ (show u1.heap.size < u2.heap.size by omega) fun e => by have := (hown _ e.symm).1; omega).trans f2)⟩ (by omega) (by omega)
        (blk_set hWw 4 _) (R_flat flat_kP hRw (fun k hk => blk_set_ne (a := ⟨L.W, 4, none⟩) (fun e => by
          rcases hRw.1 k hk with h1 | h1
          · exact (hown k h1).2 e
          · have h1 : u2.heap.size ≤ k := h1
            have e : k = L.W := e
            omega) _) fun _ _ => trivial)
        (fun k hk => (hRw.1 k hk).elim .inl fun h1 => .inr (by have h1 : u2.heap.size ≤ k := h1; omega))
        (fun b hb hbW hbo => (blk_set_ne (a := ⟨L.W, 4, none⟩) hbW _).trans ((hgw.block b (show b < u2.heap.size by omega) fun e => hbo e.symm).trans (f1 b hb))) (by rw [size_set]; exact Nat.le_trans (by omega) (show u2.heap.size ≤ w1.heap.size from hgw.size)) (hgw.os.trans f5) (hgw.output.trans f6)
      have HHS : Hid _ := hhS
      have hW8 := (blk_cell hhS.rep.w 8).trans rfl
      have hbk := hhS.rep.back
      clear hhS hRw hgw hWw hB f1 f2 f4 f5 f6 hW2
      generalize w1.setCell ⟨L.W, 4, none⟩ (.slice A1 (ts.length + 1) c1) = u3 at HHS hW8 hbk ⊢
      refine Wn.range_end (n := 0) ?_
      refine Wn.seq (Wn.open ?_)
      refine Wn.span1 0 2 3 (by simp [base]) (by decide) (by decide) (by rw [hfzS]; kernel_rfl) ?_
      simp only [List.take, List.drop]
      go_wp2_with fail
      refine ⟨rfl, ?_⟩
      have hhS := HHS.out
      have hgm := hhS.rep.nodup
      refine Wn.hire_to (dd := lifeD (u1.heap.size + 1) (.func bf #[] bcaps)) (fun r' => ∃ fr0 fs0, r' = gr fr0 fs0 ∧ ∀ u C, MainAt L (Qn L N) (Is r.1 (pks ++ [r.2])) u C → Wn C (fr0.finish (.agg #[])) fs0 u) L.back (.agg #[]) [(⟨L.W, 8, none⟩, .chan (some L.back))] (by simp [base]) rfl rfl rfl rfl (fun w => by kernel_rfl) ?_ hbk ?_ ?_ ?_ ?_
      · intro q hq
        simp only [List.mem_singleton] at hq
        subst hq
        exact hW8
      · intro x s' hx
        change seats L ts pks recs none x = some s' at hx
        unfold seats at hx
        split at hx
        · cases hx
        · split at hx
          · cases hx
          · obtain ⟨q, pk', h1, h2, h3, rfl⟩ := seatAt_some hx
            intro e
            exact (List.nodup_cons.1 hr1.nodup).1 (by rw [← show q.2 = L.back from e]; exact List.mem_map_of_mem (f := (·.2)) (List.mem_of_getElem? h1))
      · intro q hq
        simp only [List.mem_singleton] at hq
        subst hq
        refine ⟨(8, 9), ?_, by simp, by simp⟩
        show gd L (ts ++ [(u1.heap.size + 1, u1.heap.size)]) L.W = some (8, 9)
        unfold gd
        rw [if_neg hhS.hW, if_pos rfl]
      · refine Heads.ctl (fun w => stepG_region_end) ?_
        refine Heads.ctl (fun w => stepG_region) ?_
        refine Heads.move rfl rfl (by simp [base]) rfl ?_
        refine Heads.nilCheck (ad := ⟨L.W, 0, none⟩) rfl rfl (by simp [base]) rfl rfl ?_
        refine Heads.fieldAddr rfl rfl (by simp [base]) rfl rfl (field_back L.W) ?_
        refine Heads.load (v := .chan (some L.back)) rfl rfl (by simp [base]) rfl rfl (by simp) (load_chan _ L.back) ?_
        refine Heads.recv rfl rfl (by simp [base]) rfl Try.underlying77 (by kernel_rfl) rfl ?_
        refine ⟨_, _, rfl, fun u' C' hat => ?_⟩
        have hfz' : C'.fz = true := by
          obtain ⟨ts, tc, s, vth, vtr, oc, pks, recs, Cl, h, hC, _⟩ := hat
          rw [hC]; rfl
        rw [Frame.finish_at]
        refine Wn.region_end (Wn.inBlock ?_)
        have HAT : Hid _ := hat
        have HPL := HPL
        clear hat
        refine Wn.reg (by simp [base]) (by rw [hfz']; kernel_rfl) ?_
        go_wp2_with fail
        refine ⟨rfl, ?_⟩
        refine ih _ _ _ ⟨ts.length + 1, r.1, pks ++ [r.2], by omega, by omega, by rw [List.length_append, HPL.out]; rfl, HSP, fun pk hpk => ?_, HAT.out, _, _, _, _, _, _, _, _, _, _, _, _, _, _, _, _, _, _, _, _, _, _, _, _, _, _, _, _, _, _, rfl⟩
        rcases List.mem_append.1 hpk with h1 | h1
        · exact HNB.out pk h1
        · rw [List.mem_singleton] at h1; rw [h1]; exact hrb
      · rintro r' ⟨fr0, fs0, hr0, hback⟩ hc
        refine Eq.mpr (congrArg (fun c => Wn c (born Try.prog (lifeD (u1.heap.size + 1) (.func bf #[] bcaps))).frame [] u3) (nextS (r0 := r') HPL.out hc hhS.hW)) ?_
        refine hlifei (u1.heap.size + 1) p _ (fun _ => False) _ _ HPI.out HBI.out ⟨u1.heap.size, _, _, s, _, vtr, oc, pks ++ [.bad], recs, r', Is r.1 (pks ++ [r.2]), Cl, ⟨hhS, getElem?_snoc, ?_, fun b => hh.idle _ (Nat.le_refl _) b, trivial, ⟨fr0, fs0, hr0, hback⟩, ?_, ?_⟩, rfl⟩
        · rw [← HPL.out]; exact getElem?_snoc
        · rintro a b ⟨rfl, rfl⟩
          refine ⟨hrroom, fun pk hpk => ?_⟩
          rcases List.mem_append.1 hpk with h1 | h1
          · exact HNB.out pk h1
          · rw [List.mem_singleton] at h1; rw [h1]; exact hrb
        · have e : advS (ts.length : Nat) (.go p) s = r := hr.out.symm
          rw [e]
          refine ⟨rfl, ?_⟩
          rw [← HPL.out]; exact set_snoc _ _ _
    · have hil : i = procs.length := by omega
      subst hil
      have hsp := hsp.out
      rw [List.drop_length] at hsp
      have hsp : Hid (run L.sched N s pks = some fin) := hsp
      have d1 : decide ((procs.length : Int) < (procs.length : Int)) = false := decide_eq_false (by omega)
      clear hlife ih hpl
      refine Wn.seq (Wn.reg (by simp [base]) (by rw [hfz1]; kernel_rfl) ?_)
      go_wp2_with fail
      refine ⟨rfl, ?_⟩
      refine Wn.seq (Wn.cond rfl ?_)
      simp only [Bool.false_eq_true, if_false]
      clear d1
      refine Wn.exit rfl ?_
      refine Wn.block ?_
      refine Wn.loop_ind (f := N) (fun f a u1 C1 => ∃ (s : Sys) (pks : List Park), Hid (run L.sched f s pks = some fin) ∧ (∀ pk ∈ pks, pk.isBad = false) ∧ MainAt L (Qn L f) (Is s pks) u1 C1 ∧ ∃ x60 x61, a = { tmps := #[ptr L.W, .slice BA procs.length bcp, undef, undef, undef, undef, undef, x7, x8, x9, ptr L.W, .bool false, undef, undef, undef, undef, undef, undef, undef, undef, undef, undef, undef, ptr L.W, .pointer (some ⟨L.W, 0, none⟩), .pointer (some ⟨L.W, 7, none⟩), .bool false, ptr L.W, .pointer (some ⟨L.W, 0, none⟩), .pointer (some ⟨L.W, 7, none⟩), .slice BA procs.length bcp, num procs.length, num procs.length, .bool false, x34, x35, x36, x37, x38, x39, x40, x41, x42, x43, x44, x45, x46, x47, x48, x49, x50, x51, x52, x53, x54, x55, x56, x57, x58, x59, x60, x61], defers := [] }) ?_ ?_ ⟨s, pks, hsp, hnb, hmain, _, _, rfl⟩
      · rintro f ih a u1 C1 ⟨s, pks, hrn, hnb, hmain, x60, x61, rfl⟩
        have hfz1 : C1.fz = true := by
          obtain ⟨ts, tc, s, vth, vtr, oc, pks, recs, Cl, h, hC, _⟩ := hmain
          rw [hC]; rfl
        have HM : Hid _ := hmain
        clear hmain
        refine Wn.seq (Wn.seq (Wn.open ?_))
        refine Wn.span1 0 1 2 (by simp [base]) (by decide) (by decide) (by rw [hfz1]; kernel_rfl) ?_
        simp only [List.take, List.drop]
        go_wp2_with fail
        refine ⟨rfl, ?_⟩
        refine Wn.callC 1 1 0 rfl (by simp [base]) rfl rfl rfl (by kernel_rfl) ?_
        obtain ⟨ts, tc, s, vth, vtr, oc, pks, recs, Cl, hh, hC, rfl, rfl⟩ := HM.out
        have hrn := hrn.out
        refine turn102 hon hsch hh hC hnb (fun h1 h2 u' hat => ?_) (fun h1 h2 => ?_) (fun h1 h2 u' hat => ?_) (fun h1 j r hj hr => ?_) (fun h1 j r hj hr u' C' hat => ?_)
        · have e := run_done hrn h1 h2
          rw [Frame.finish_at]
          refine Wn.range_end (Wn.cond rfl ?_)
          simp only [Bool.false_eq_true, if_false]
          refine Wn.exit rfl (Wn.fall ?_)
          refine Wn.back rfl rfl Try.func77 (results_none rfl _ _ _) ?_
          refine hn u' _ ?_
          rw [e]
          exact hat.less fun _ _ _ _ _ hq => Qn_zero _ hq
        · have h3 := run_longer _ _ _ _ fin.1 fin.2 (run_jam hrn h1 h2)
          have h4 : s.jam.trace.length = s.trace.length + 1 := by simp [Sys.jam]
          omega
        · rw [Frame.finish_at]
          refine Wn.range_end (Wn.cond rfl ?_)
          simp only [if_true]
          refine Wn.skip (Wn.block (Wn.skip (Wn.inBlock ?_)))
          exact ih _ _ _ ⟨s.jam, pks, run_jam hrn h1 h2, hnb, hat.less fun _ _ _ _ _ hq => Qn_succ hq, _, _, rfl⟩
        · obtain ⟨h3, h4⟩ := run_go hrn h1 hj hr
          exact ⟨h3, Nat.le_trans (run_longer _ _ _ _ fin.1 fin.2 h4) hroom⟩
        · obtain ⟨h3, h4⟩ := run_go hrn h1 hj hr
          rw [Frame.finish_at]
          refine Wn.range_end (Wn.cond rfl ?_)
          simp only [if_true]
          refine Wn.skip (Wn.block (Wn.skip (Wn.inBlock ?_)))
          refine ih _ _ _ ⟨r.1, pks.set j r.2, h4, fun pk hpk => ?_, hat, _, _, rfl⟩
          rcases List.mem_or_eq_of_mem_set hpk with h5 | h5
          · exact hnb pk h5
          · rw [h5]; exact h3
      · rintro a u1 C1 ⟨s, pks, hrn, _⟩
        have := hrn.out
        cases this
  · rintro a u1 C1 ⟨i, s, pks, hf, _⟩
    omega
end
end Go.Proofs.Ytoabkcalphpkhaa

/- Merged: Life, Pick, Pick2, Ready, Main. -/
import Derived.Test.YtoabkcalphpkhaaN15
import Derived.Test.YtoabkcalphpkhaaN01
import Derived.Deep.LoopGhost
/- A thread's life: run, its body, and its end: it says that it has ended, gives the turn back, and leaves. (Printed by gen_life.py.) -/
namespace Go.Proofs.Ytoabkcalphpkhaa
open Go Go.Conc Go.RowKit
open Go.Proofs.YtoabkcalphpkhaaW.PrintWords
set_option linter.unusedVariables false
set_option linter.unusedSimpArgs false
set_option linter.unusedSectionVars false
set_option maxRecDepth 100000

section
variable {L : Lay} {Q : PQ} {n i T g : Nat} {p : Stat} {F F' : Nat → Prop} {u u' w1 : World} {ts : List (Nat × Nat)} {tc : Nat → TC} {s : Sys} {vth vtr v' : Value} {oc : Array Value} {pks : List Park} {recs : Nat → Goroutine} {r0 : Goroutine} {K : Sys → List Park → Prop} {Cl : Nat → Nat → Option Obj} {C : Ctx Try.prog}

/-- What is left of a goroutine behind its deferred calls. -/
def bornOut (P : Program) (d : Deferred) : Frame := { (born P d).frame with defers := [] }
theorem quits_born {P : Program} {d : Deferred} : QuitsD P 1 0 (gr (bornOut P d) []) := by
  refine QuitsD.ctl (g' := { frame := bornOut P d, callers := [], status := .finished, dying := none }) rfl (fun w => ?_) ⟨rfl, rfl⟩
  have hc : (bornOut P d).catches P = false := by simp [Frame.catches, bornOut, born, show (default : Frame).todo = [] from rfl]
  have hm : (bornOut P d).mode = .panicking [goexitEntry] := rfl
  have hd : (bornOut P d).defers = [] := rfl
  simp only [stepG, unwind, gr, hm, hd, hc]
  simp [goexitEntry]
/-- A deferred frame that has come to its end, above the goroutine's root. -/
theorem quits_root {P : Program} {d : Deferred} {b : Frame} {a : Act} {todo : List Item} {fn : Func} (hk : b.kind = .deferred) (hd : a.defers = []) (hf : P.funcs[b.fn]? = some fn) (hr : fn.results = #[]) : QuitsD P 2 0 (gr { b.at a todo with mode := .returning } [bornOut P d]) := by
  refine QuitsD.ctl (g' := gr (bornOut P d) []) rfl (fun w => ?_) (quits_born (d := d))
  have h2 : (results fn a.tmps).runT P w #[] = (.ok (.tuple #[]) w, #[]) := by simp [results, hr]
  simp only [stepG, unwind, gr, Frame.at, hd, hf, h2, hk, doReturn]
  simp [GStep.after, bornOut, born, goexitEntry, seen_none]

theorem Wn.pure {P : Program} {C : Ctx P} {b : Frame} {a : Act} {ops : Array Oper} {i : Nat} {rest : List Nat} {k : List Item} {o : Oper} {cs : List Frame} {u : World} {v : Value}
    (hb : b.kind ≠ .early) (ho : ops[i]? = some o) (hw : Region.wanted o (yielded ops a.tmps) = true) (hr : ∀ w, (execOp a.eval o).runT P w #[] = (.ok (.value v) w, #[]))
    (h : Wn C (b.at (a.put o.dst v) (.inRegion ops rest :: k)) cs u) : Wn C (b.at a (.inRegion ops (i :: rest) :: k)) cs u := by
  refine Wn.ctl_ (fun main w => ?_) h
  rw [step_apply main w hb ho hw]
  have hfin : (b.at a (.inRegion ops (i :: rest) :: k)).finish v = b.at (a.put o.dst v) (.inRegion ops rest :: k) := by rw [Frame.finish_at, ho]; rfl
  rw [← hfin]
  simp only [stepG.apply, hr w]
  simp [GStep.after, seen_none, gr, Frame.at]

def bodyV (lb db ob ib : Nat) : Value := .func (.func 75) #[] #[ptr lb, ptr db, ptr ob, ptr ib]
def lifeD (T : Nat) (bv : Value) : Deferred := { target := .fn (.func 101) #[], args := #[ptr T, bv] }

theorem WRet.plain {out : List Ans} (h : WRet L i T out F u C) : C.fz = true ∧ C.S = S0 ∧ (∀ b, F b → b < u.heap.size) ∧ 0 < C.h := by
  obtain ⟨n, g, ts, tc, s, vth, vtr, oc, pks, recs, r0, K, Cl, v, h, rfl, _⟩ := h
  exact ⟨rfl, rfl, fun b hb => (h.held.heaps.fr b hb).1, by have := h.held.N0; show 0 < L.N0 + i; omega⟩

set_option maxHeartbeats 1000000 in
/-- The end: state 3, the turn back, and away. -/
theorem end127 {out : List Ans} (h : WRet L i T out F u C) {bx : Nat} (hF : F bx) (hbx : u.heap[bx]? = some (.cells #[ptr T] 45 (0, 0))) {fr : Frame} {cs : List Frame} (hrun : fr.mode = .returning) {m : Nat} (hq : QuitsD Try.prog m 0 (gr fr cs)) :
    Wn C (Frame.enter Try.prog 127 #[ptr bx] .deferred) (fr :: cs) u := by
  obtain ⟨hfz, hS, hlt, h0⟩ := h.plain
  obtain ⟨n, g, ts, tc, s, vth, vtr, oc, pks, recs, r0, K, Cl, v, h, hC, hocv, hRv⟩ := h
  have hr := h.held.rep
  have hT := hr.t i _ h.me
  have x0 : u.cell? ⟨bx, 0, none⟩ = some (.pointer (some ⟨T, 0, none⟩)) := (blk_cell hbx 0).trans rfl
  have hT0 : u.cell? ⟨T, 0, none⟩ = some (.pointer (some ⟨L.W, 0, none⟩)) := (blk_cell hT 0).trans rfl
  have hT3 : u.cell? ⟨T, 3, none⟩ = some (num (tc i).st) := (blk_cell hT 3).trans rfl
  have zT3 : u.frozen? ⟨T, 3, none⟩ = false := (blk_frozen hT 3).trans rfl
  have hW8 : u.cell? ⟨L.W, 8, none⟩ = some (.chan (some L.back)) := (blk_cell hr.w 8).trans rfl
  have hnT : bx ≠ T := fun e => (h.held.heaps.fr _ hF).2.1 (.inr (.inr (.inr (.inr (.inr (.inl ⟨_, List.mem_of_getElem? h.me, .inl e⟩))))))
  have hnW := hr.nW_T h.me
  have HC : Hid (C = ctxOf L ts pks recs (some r0) (L.N0 + i) h.held.hW) := hC
  clear hC
  rw [enter_atD _ Try.func127 rfl]
  simp only [Try.ntmps127, List.size_toArray, List.length_cons, List.length_nil, Nat.reduceAdd, Nat.reduceSub, Array.replicate_succ, Array.replicate_zero, List.push_toArray, List.append_toArray, List.nil_append, List.cons_append]
  refine Wn.seq (Wn.seq (Wn.open ?_))
  show Wn C _ _ u
  rw [List.length_cons, List.length_cons, List.length_nil, List.range'_succ]
  refine Wn.recover_none (by simp [baseD]) rfl rfl (fun w => rfl) ?_ ?_
  · simp only [tryRecover, Frame.at, baseD, hrun]
  rw [List.range'_succ]
  refine Wn.pure (v := .bool false) (by simp [baseD]) rfl rfl (fun w => ?_) ?_
  · rfl
  refine Wn.range_end (n := 2) (Wn.cond rfl ?_)
  simp only [Bool.false_eq_true, if_false]
  refine Wn.skip (Wn.seq (Wn.reg (by simp [baseD]) (by rw [hfz]; kernel_rfl) ?_))
  go_wp2_with fail
  refine ⟨rfl, ?_⟩
  have y0 : (u.setCell ⟨T, 3, none⟩ (num 3)).cell? ⟨bx, 0, none⟩ = some (.pointer (some ⟨T, 0, none⟩)) := by rw [World.cell?_setCell_other (h := by simp [hnT])]; exact x0
  have yT0 : (u.setCell ⟨T, 3, none⟩ (num 3)).cell? ⟨T, 0, none⟩ = some (.pointer (some ⟨L.W, 0, none⟩)) := by rw [World.cell?_setCell_other (h := by simp)]; exact hT0
  have yW8 : (u.setCell ⟨T, 3, none⟩ (num 3)).cell? ⟨L.W, 8, none⟩ = some (.chan (some L.back)) := by rw [World.cell?_setCell_other (h := by simp [hnW])]; exact hW8
  have hTA : (u.setCell ⟨T, 3, none⟩ (num 3)).heap[T]? = some (.cells (tCells L.W i g ⟨3, (tc i).cell, (tc i).op, (tc i).seen⟩) 92 (2, 3)) := by rw [blk_set hT 3]; rfl
  have hoA : ∀ b, b ≠ T → (u.setCell ⟨T, 3, none⟩ (num 3)).heap[b]? = u.heap[b]? := fun b hb => blk_set_ne (a := ⟨T, 3, none⟩) hb _
  have hrA := hr.thread h.me hTA hoA rfl rfl
  clear x0 hT0 hT3 zT3 hW8
  generalize u.setCell ⟨T, 3, none⟩ (num 3) = uA at y0 yT0 yW8 hTA hoA hrA ⊢
  refine Wn.open ?_
  refine Wn.span1 0 8 9 (by simp [baseD]) (by decide) (by decide) (by rw [hfz]; kernel_rfl) ?_
  simp only [List.take, List.drop]
  go_wp2_with fail
  refine ⟨rfl, ?_⟩
  clear y0 yT0 yW8
  obtain ⟨fr0, fs0, hr0, hmain⟩ := h.main
  have hil : i < ts.length := (List.getElem?_eq_some_iff.1 h.me).1
  rw [List.range'_succ]
  have hC := HC.out
  clear HC
  subst hC
  refine Wn.give_quit (j := 0) (s := seatM L r0) (n := m + 3) (by simp [baseD]) rfl rfl rfl rfl (by show seats L ts pks recs (some r0) 0 = _; unfold seats; rw [if_pos rfl]; rfl) rfl rfl ?_ h0 ?_ hr0 ?_
  · show gd L ts L.back = none
    unfold gd
    rw [if_neg, if_neg (Ne.symm (ne_of_chan hr.w hr.back))]
    intro hm
    obtain ⟨q, hq, e⟩ := List.mem_map.1 hm
    obtain ⟨j, hj⟩ := List.mem_iff_getElem?.1 hq
    exact ne_of_chan (hr.t j q hj) hr.back e
  · refine QuitsD.ctl rfl (fun w => stepG_region_end) (QuitsD.ctl rfl (fun w => stepG_end) (QuitsD.leaveD rfl rfl Try.func127 rfl hrun hq))
  · intro hc kk
    have hI : (((ctxOf L ts pks recs (some r0) (L.N0 + i) h.held.hW).I.set (ctxOf L ts pks recs (some r0) (L.N0 + i) h.held.hW).h none).set 0 none) = seats L ts (pks.set i (.ended out)) recs none := by
      funext x
      unfold Seats.set
      show (if x = 0 then none else if x = L.N0 + i then none else seats L ts pks recs (some r0) x) = _
      unfold seats
      by_cases e0 : x = 0
      · simp only [if_pos e0]; rfl
      · simp only [if_neg e0]
        by_cases e1 : x = L.N0 + i
        · rw [if_pos e1, if_neg (show ¬ x < L.N0 by omega), e1, Nat.add_sub_cancel_left]
          unfold seatAt
          rw [h.me, List.getElem?_set_self (by rw [h.held.lens]; exact hil)]
          rfl
        · rw [if_neg e1]
          split
          · rfl
          · unfold seatAt
            rw [List.getElem?_set_ne (by omega)]
    rw [next_eq (h' := 0) hc hI]
    refine hmain _ _ ⟨ts, fun j => if j = i then ⟨3, (tc i).cell, (tc i).op, (tc i).seen⟩ else tc j, s, vth, vtr, oc, pks.set i (.ended out), recs, fun j => if j = i + 1 then (fun b => open Classical in if F b then u.heap[b]? else none) else Cl j, ?_, rfl, ?_⟩
    · show Held L (Qn L n) _ _ _ _ _ _ _ _ _ _ (uA.setChan L.back 0 #[] false kk kk false)
      have hrB := hrA.chan (k := kk) hrA.back
      have hoB : ∀ b, b ≠ T → b ≠ L.back → (uA.setChan L.back 0 #[] false kk kk false).heap[b]? = u.heap[b]? := fun b h1 h2 => (heap_setChan_ne uA _ _ _ _ _ _ (Ne.symm h2)).trans (hoA b h1)
      have hmem : (T, g) ∈ ts := List.mem_of_getElem? h.me
      have hsT : sysb L ts vth vtr T := .inr (.inr (.inr (.inr (.inr (.inl ⟨_, hmem, .inl rfl⟩)))))
      have hsB : sysb L ts vth vtr L.back := .inr (.inl rfl)
      have hH := h.held.heaps
      refine ⟨by rw [List.length_set]; exact h.held.lens, hrB, ⟨fun j b o ho' => ?_, fun j b o ho' => ?_, fun j j' b o o' h1 h2 => ?_, fun b hb => hb.elim⟩, ?_, fun j hj b => ?_, h.held.N0, h.held.ton, fun j q pk' hq' hpk => ?_⟩
      · split at ho'
        · dsimp only at ho'
          split at ho'
          · rename_i hFb
            rw [hoB b (fun e => (hH.fr b hFb).2.1 (e ▸ hsT)) (fun e => (hH.fr b hFb).2.1 (e ▸ hsB))]
            exact ho'
          · cases ho'
        · rw [hoB b (fun e => hH.cls j b o ho' (e ▸ hsT)) (fun e => hH.cls j b o ho' (e ▸ hsB))]
          exact hH.cl j b o ho'
      · split at ho'
        · dsimp only at ho'
          split at ho'
          · rename_i hFb
            exact (hH.fr b hFb).2.1
          · cases ho'
        · exact hH.cls j b o ho'
      · split at h1
        · dsimp only at h1
          split at h1
          · rename_i ej hFb
            split at h2
            · rename_i ej'
              rw [ej, ej']
            · rw [(hH.fr b hFb).2.2 j'] at h2; cases h2
          · cases h1
        · split at h2
          · dsimp only at h2
            split at h2
            · rename_i hFb
              rw [(hH.fr b hFb).2.2 j] at h1; cases h1
            · cases h2
          · exact hH.dis j j' b o o' h1 h2
      · simp only [if_neg (show ¬ (0 = i + 1) by omega)]
        exact h.held.ro
      · simp only [if_neg (show ¬ (j + 1 = i + 1) by omega)]
        exact h.held.idle j hj b
      · by_cases ej : j = i
        · subst ej
          rw [List.getElem?_set_self (by rw [h.held.lens]; exact hil)] at hpk
          obtain rfl := Option.some.inj hpk
          simp only [if_true]
          refine ⟨rfl, (fun e => by cases e), fun out' e => ?_⟩
          cases e
          refine ⟨v, hocv, fun w hw => R_flat flat_kA hRv (fun k hk => ?_) fun k hk => ?_⟩
          · have hFk := hRv.1 k hk
            have hlk := (hH.fr k hFk).1
            have := hw k _ ((if_pos hFk).trans (Array.getElem?_eq_getElem hlk))
            rw [this, Array.getElem?_eq_getElem hlk]
          · have hFk := hRv.1 k hk
            have hlk := (hH.fr k hFk).1
            exact ⟨_, (if_pos hFk).trans (Array.getElem?_eq_getElem hlk)⟩
        · rw [List.getElem?_set_ne (Ne.symm ej)] at hpk
          simp only [if_neg ej, if_neg (show ¬ (j + 1 = i + 1) by omega)]
          exact h.held.par j q pk' hq' hpk
    · exact h.go

set_option maxHeartbeats 1000000 in
/-- A thread's whole life. -/
theorem life101 {fid : FuncId} {caps : Array Value} {doP : Cal → (Ans → Proc) → Proc} (hdo : DoOK (worldMode L i T) fid caps doP) (hbd : bodied Try.prog fid = true) {A : Option Addr} {cp : Nat} {l : List Cal} (hlen : l.length ≤ 64) (hin : ∀ c ∈ l, CalIn c)
    (hs : ∀ u, roOn (worldMode L i T) u → Scr u A l) {lb db ob ib : Nat} {zl zd zo zi : Nat × Nat} (hlb : L.ro lb = some (.cells #[.slice A l.length cp] 32 zl)) (hdb : L.ro db = some (.cells #[.func (.func fid) #[] caps] 82 zd))
    (hob : L.ro ob = some (.cells #[.slice (some ⟨L.out, 0, none⟩) L.on L.on] 27 zo)) (hib : L.ro ib = some (.cells #[num i] 3 zi))
    (h : AtF L (Qn L n) i T (.go (oneP doP 0 l [])) F u C) : Wn C (born Try.prog (lifeD T (bodyV lb db ob ib))).frame [] u := by
  have hat : (worldMode L i T).At (.go (oneP doP 0 l [])) F u C := ⟨n, h⟩
  have hfz := ((worldMode L i T).plain hat).1
  refine Wn.unwinds (dd := lifeD T (bodyV lb db ob ib)) (ds := []) (f := 101) (args := #[ptr T, bodyV lb db ob ib]) (by simp [born]) rfl rfl (fun w => ?_) ?_
  · show (invoke (.fn (.func 101) #[]) #[ptr T, bodyV lb db ob ib]).runT Try.prog w #[] = _
    exact runT_callFunc (by kernel_rfl) _ w
  show Wn C _ [bornOut Try.prog (lifeD T (bodyV lb db ob ib))] u
  rw [enter_atD _ Try.func101 rfl]
  simp only [Try.ntmps101, List.size_toArray, List.length_cons, List.length_nil, Nat.reduceAdd, Nat.reduceSub, Array.replicate_succ, Array.replicate_zero, List.push_toArray, List.append_toArray, List.nil_append, List.cons_append]
  refine Wn.seq (Wn.reg (by simp [baseD]) (by rw [hfz]; kernel_rfl) ?_)
  go_wp2_with fail
  refine ⟨rfl, ?_⟩
  obtain ⟨F1, h1, hF1, hk1, hFb, hbb⟩ := (worldMode L i T).one hat (.cells #[ptr T] 45 (0, 0))
  generalize u.alloc (.cells #[ptr T] 45 (0, 0)) = u1 at h1 hk1 hbb ⊢
  generalize u.heap.size = bx at hFb hbb ⊢
  have x0 : u1.cell? ⟨bx, 0, none⟩ = some (.pointer (some ⟨T, 0, none⟩)) := (blk_cell hbb 0).trans rfl
  refine Wn.seq (Wn.open ?_)
  refine Wn.span1 0 1 2 (by simp [baseD]) (by decide) (by decide) (by rw [hfz]; kernel_rfl) ?_
  simp only [List.take, List.drop]
  go_wp2_with fail
  refine ⟨rfl, ?_⟩
  rw [List.range'_succ]
  refine Wn.defer (dd := { target := .fn (.func 127) #[ptr bx], args := #[] }) (by simp [baseD]) rfl rfl rfl rfl (fun w => by kernel_rfl) ?_
  refine Wn.range_end (n := 2) ?_
  refine Wn.open ?_
  refine Wn.span1 0 2 3 (by simp [baseD]) (by decide) (by decide) (by rw [hfz]; kernel_rfl) ?_
  simp only [List.take, List.drop]
  go_wp2_with fail
  refine ⟨rfl, ?_⟩
  refine Wn.callV 2 1 0 rfl (by simp [baseD]) rfl rfl rfl rfl (by kernel_rfl) ?_
  obtain ⟨m1, h1'⟩ := h1
  refine body75 hdo hbd hlen hin hs hlb hdb hob hib h1' ?_
  intro out F2 u2 C2 h2 hF2 hk2
  rw [Frame.finish_at]
  refine Wn.range_end (Wn.fall ?_)
  refine Wn.unwinds (dd := { target := .fn (.func 127) #[ptr bx], args := #[] }) (ds := []) (f := 127) (args := #[ptr bx]) (by simp) rfl rfl (fun w => ?_) ?_
  · show (invoke (.fn (.func 127) #[ptr bx]) #[]).runT Try.prog w #[] = _
    exact runT_callFunc (by kernel_rfl) _ w
  refine end127 (m := 2) h2 (hF2 bx hFb) ((hk2 bx hFb).trans hbb) rfl ?_
  exact quits_root (b := baseD 101) (a := { tmps := _, defers := [] }) (todo := []) rfl rfl Try.func101 rfl
end
end Go.Proofs.Ytoabkcalphpkhaa

/- (*World).pick: which one of those that could go goes. -/
namespace Go.Proofs.Ytoabkcalphpkhaa
open Go Go.RowKit
set_option linter.unusedVariables false
set_option linter.unusedSimpArgs false

/-- A row of threads. -/
def Ptrs (w : World) (A : Option Addr) (ts : List Nat) : Prop := ∀ i : Nat, i < ts.length → ∃ ad, A = some ad ∧ w.cell? (ad.add i) = some (.pointer (some ⟨ts.getD i 0, 0, none⟩))
set_option maxHeartbeats 1000000 in
set_option maxRecDepth 100000 in
theorem pick_sched (w : World) (W : Nat) (A B : Option Addr) (n cp m cq : Nat) (xs : List Int) (ts : List Nat) (used : Nat) (hm : ts.length = m) (hm0 : 0 < m) (hmx : m ≤ 9223372036854775807) (hmax : n ≤ 9223372036854775807) (hu : used < n)
    (h0 : w.cell? ⟨W, 0, none⟩ = some (.slice A n cp)) (h1 : w.cell? ⟨W, 1, none⟩ = some (.int .i64 used)) (hz : w.frozen? ⟨W, 1, none⟩ = false) (hr : Nums w A n xs) (hB : Ptrs w B ts) :
    Calls Try.prog 129 #[.pointer (some ⟨W, 0, none⟩), .slice B m cq] w fun e w' => e = .returned (.pointer (some ⟨ts.getD (placeOf (xs.getD used 0) m).toNat 0, 0, none⟩)) ∧ ∃ q, w' = (w.drewN q).setCell ⟨W, 1, none⟩ (.int .i64 ((used : Int) + 1)) := by
  obtain ⟨hl, hr⟩ := hr
  obtain ⟨ad, rfl, hx⟩ := hr used hu
  have d0 : decide ((used : Int) < (n : Int)) = true := decide_eq_true (by omega)
  have d1 : decide ((0 : Int) ≤ (used : Int)) = true := decide_eq_true (by omega)
  have dm : (m : Int) ≠ 0 := by omega
  generalize hy : xs.getD used 0 = y at hx ⊢
  have b0 : y.tmod (m : Int) < m := Int.tmod_lt_of_pos _ (by omega)
  have b1 : -(m : Int) < y.tmod (m : Int) := Int.lt_tmod_of_pos _ (by omega)
  by_cases hneg : y.tmod (m : Int) < 0
  · have e : placeOf y m = y.tmod m + m := by unfold placeOf; rw [if_pos hneg]
    rw [e]
    obtain ⟨be, rfl, hb⟩ := hB (y.tmod m + m).toNat (by omega)
    generalize ts.getD (y.tmod m + m).toNat 0 = tk at hb ⊢
    have hne : (⟨W, 1, none⟩ : Addr) ≠ be.add (y.tmod m + m).toNat := fun e' => by rw [← e', h1] at hb; cases hb
    have hb2 : ∀ q v, ((w.drewN q).setCell ⟨W, 1, none⟩ v).cell? (be.add (y.tmod m + m).toNat) = some (.pointer (some ⟨tk, 0, none⟩)) := fun q v => (World.cell?_setCell_other (h := hne) ..).trans hb
    have w0 : wrap64 (y.tmod (m : Int) + m) = y.tmod m + m := by unfold wrap64; omega
    have p0 : decide (y.tmod (m : Int) < 0) = true := decide_eq_true hneg
    have p1 : decide (0 ≤ y.tmod (m : Int) + m) = true := decide_eq_true (by omega)
    have p2 : decide (y.tmod (m : Int) + m < (m : Int)) = true := decide_eq_true (by omega)
    have p3 : y.tmod (m : Int) + m < (m : Int) := by omega
    have p4 : 0 ≤ y.tmod (m : Int) + m := by omega
    go_enter Try.func129, Try.ntmps129
    go_wp2_with fail
    go_quiet (fail)
    go_wp2_with fail
    go_quiet (fail)
    go_wp2_with fail
    go_ret
    exact ⟨rfl, _, rfl⟩
  · have e : placeOf y m = y.tmod m := by unfold placeOf; rw [if_neg hneg]
    rw [e]
    obtain ⟨be, rfl, hb⟩ := hB (y.tmod m).toNat (by omega)
    generalize ts.getD (y.tmod m).toNat 0 = tk at hb ⊢
    have hne : (⟨W, 1, none⟩ : Addr) ≠ be.add (y.tmod m).toNat := fun e' => by rw [← e', h1] at hb; cases hb
    have hb2 : ∀ q v, ((w.drewN q).setCell ⟨W, 1, none⟩ v).cell? (be.add (y.tmod m).toNat) = some (.pointer (some ⟨tk, 0, none⟩)) := fun q v => (World.cell?_setCell_other (h := hne) ..).trans hb
    have p0 : decide (y.tmod (m : Int) < 0) = false := decide_eq_false hneg
    have p1 : decide (0 ≤ y.tmod (m : Int)) = true := decide_eq_true (by omega)
    have p2 : decide (y.tmod (m : Int) < (m : Int)) = true := decide_eq_true b0
    go_enter Try.func129, Try.ntmps129
    go_wp2_with fail
    go_quiet (fail)
    go_wp2_with fail
    go_quiet (fail)
    go_wp2_with fail
    go_ret
    exact ⟨rfl, _, rfl⟩
end Go.Proofs.Ytoabkcalphpkhaa

/- (*World).pick, behind the schedule's end: the next one behind who went last. -/
namespace Go.Proofs.Ytoabkcalphpkhaa
open Go Go.RowKit
set_option linter.unusedVariables false
set_option linter.unusedSimpArgs false

/-- The first place from i on whose number is above 'last'; 0, if there is none. -/
def nextFrom (ids : List Int) (last : Int) : Nat → Nat → Nat
  | 0, _ => 0
  | d + 1, i => if last < ids.getD i 0 then i else nextFrom ids last d (i + 1)

set_option maxHeartbeats 1000000 in
set_option maxRecDepth 100000 in
theorem pick_next (w : World) (W : Nat) (A B : Option Addr) (n cp m cq : Nat) (ts : List Nat) (ids : List Int) (last used : Int) (hm : ts.length = m) (hm0 : 0 < m) (hmx : m ≤ 9223372036854775806) (hmax : n ≤ 9223372036854775807) (hu : ¬ used < n)
    (h0 : w.cell? ⟨W, 0, none⟩ = some (.slice A n cp)) (h1 : w.cell? ⟨W, 1, none⟩ = some (.int .i64 used)) (h2 : w.cell? ⟨W, 2, none⟩ = some (.int .i64 last)) (hB : Ptrs w B ts) (hid : ∀ i, i < m → w.cell? ⟨ts.getD i 0, 1, none⟩ = some (.int .i64 (ids.getD i 0))) :
    Calls Try.prog 129 #[.pointer (some ⟨W, 0, none⟩), .slice B m cq] w fun e w' => e = .returned (.pointer (some ⟨ts.getD (nextFrom ids last m 0) 0, 0, none⟩)) ∧ ∃ q, w' = w.drewN q := by
  have d0 : decide (used < (n : Int)) = false := decide_eq_false hu
  obtain ⟨res, hres⟩ : ∃ res, Hid (res = ts.getD (nextFrom ids last m 0) 0) := ⟨_, rfl⟩
  rw [← hres.out]
  go_enter Try.func129, Try.ntmps129
  go_wp2_with fail
  go_quiet (fail)
  go_wp2_with fail
  go_loopg [50] m (fun d v w' => ∃ i : Nat, v = .int .i64 (i : Int) ∧ i + d = m ∧ nextFrom ids last m 0 = nextFrom ids last d i ∧ ∃ q, w' = w.drewN q)
  case atStart => exact ⟨0, rfl, by omega, rfl, _, rfl⟩
  case round =>
    obtain ⟨i, rfl, hi, hn, q, rfl⟩ := hrel
    cases gk with
    | zero =>
      have di : decide ((i : Int) < (m : Int)) = false := decide_eq_false (by omega)
      obtain ⟨be, rfl, hb⟩ := hB 0 (by omega)
      have e : nextFrom ids last m 0 = 0 := by rw [hn]; rfl
      have hb' : w.cell? be = some (.pointer (some ⟨res, 0, none⟩)) := by rw [hres.out, e]; exact hb
      have dm : decide ((0 : Int) < (m : Int)) = true := decide_eq_true (by omega)
      clear hb hB hid e hn
      go_wp2_with fail
      go_ret
      exact ⟨rfl, _, rfl⟩
    | succ d =>
      have di : decide ((i : Int) < (m : Int)) = true := decide_eq_true (by omega)
      have di2 : decide ((0 : Int) ≤ (i : Int)) = true := decide_eq_true (by omega)
      obtain ⟨be, rfl, hb⟩ := hB i (by omega)
      have hidi := hid i (by omega)
      by_cases hlt : last < ids.getD i 0
      · have dl : decide (last < ids.getD i 0) = true := decide_eq_true hlt
        have e : nextFrom ids last m 0 = i := by rw [hn]; simp only [nextFrom]; rw [if_pos hlt]
        have hr2 := hres.out
        rw [e] at hr2
        rw [← hr2] at hb hidi
        have hgt : decide (ids.getD i 0 > last) = true := dl
        generalize ids.getD i 0 = idk at hidi dl hlt hgt
        clear hB hid e hn hr2
        go_wp2_with fail
        go_quiet (fail)
        go_wp2_with fail
        go_ret
        exact ⟨rfl, _, World.drewN_drewN ..⟩
      · have dl : decide (last < ids.getD i 0) = false := decide_eq_false hlt
        have e : nextFrom ids last m 0 = nextFrom ids last d (i + 1) := by rw [hn]; simp only [nextFrom]; rw [if_neg hlt]
        have hgt : decide (ids.getD i 0 > last) = false := dl
        obtain ⟨tk, htk⟩ : ∃ tk, Hid (tk = ts.getD i 0) := ⟨_, rfl⟩
        rw [← htk.out] at hb hidi
        generalize ids.getD i 0 = idk at hidi dl hlt hgt
        have e : Hid (nextFrom ids last m 0 = nextFrom ids last d (i + 1)) := e
        clear hB hid hn
        go_wp2_with fail
        go_quiet (fail)
        go_wp2_with fail
        go_roundg d
        case measure => omega
        case rel => exact ⟨i + 1, (by push_cast; rfl), by omega, e.out, _, rfl⟩
end Go.Proofs.Ytoabkcalphpkhaa

/- (*Thread).ready: could a thread go? -/
namespace Go.Proofs.Ytoabkcalphpkhaa
open Go Go.RowKit
set_option linter.unusedVariables false
set_option linter.unusedSimpArgs false

def readyOf (st : Int) (stuck : Bool) (ch seen : Int) : Bool := decide (st = 1) || (decide (st = 2) && (stuck || decide (ch ≠ seen)))

set_option maxHeartbeats 1000000 in
set_option maxRecDepth 100000 in
theorem ready_calls (w : World) (T W : Nat) (A : Option Addr) (n cp : Nat) (xs : List Int) (st c seen : Int) (stuck : Bool) (hmax : n ≤ 9223372036854775807)
    (hT0 : w.cell? ⟨T, 0, none⟩ = some (.pointer (some ⟨W, 0, none⟩))) (hT3 : w.cell? ⟨T, 3, none⟩ = some (.int .i64 st)) (hT4 : w.cell? ⟨T, 4, none⟩ = some (.int .i64 c)) (hT6 : w.cell? ⟨T, 6, none⟩ = some (.int .i64 seen))
    (hW6 : w.cell? ⟨W, 6, none⟩ = some (.bool stuck)) (h3 : w.cell? ⟨W, 3, none⟩ = some (.slice A n cp)) (hr : Nums w A n xs) :
    Calls Try.prog 128 #[.pointer (some ⟨T, 0, none⟩)] w fun e w' => e = .returned (.bool (readyOf st stuck (changedOf xs c) seen)) ∧ ∃ q, w' = w.drewN q := by
  by_cases h1 : st = 1
  · subst h1
    go_enter Try.func128, Try.ntmps128
    go_wp2_with fail
    go_quiet (fail)
    go_wp2_with fail
    go_ret
    exact ⟨by simp [readyOf], _, rfl⟩
  · have b1 : (st == 1) = false := beq_eq_false_iff_ne.mpr h1
    have e1 : decide (st = 1) = false := decide_eq_false h1
    by_cases h2 : st = 2
    · subst h2
      cases stuck with
      | true =>
        go_enter Try.func128, Try.ntmps128
        go_wp2_with fail
        go_quiet (fail)
        go_wp2_with fail
        go_ret
        exact ⟨by simp [readyOf], _, rfl⟩
      | false =>
        go_enter Try.func128, Try.ntmps128
        go_wp2_with fail
        go_quiet (exact Calls.quiet_of_same (changed_calls (w.drewN _) W A n cp xs c hmax h3 hr))
        go_wp2_with fail
        go_ret
        exact ⟨by by_cases hx : changedOf xs c = seen <;> simp [readyOf, hx], _, rfl⟩
    · have b2 : (st == 2) = false := beq_eq_false_iff_ne.mpr h2
      have e2 : decide (st = 2) = false := decide_eq_false h2
      go_enter Try.func128, Try.ntmps128
      go_wp2_with fail
      go_quiet (fail)
      go_wp2_with fail
      go_ret
      exact ⟨by simp [readyOf, h1, h2], _, rfl⟩
end Go.Proofs.Ytoabkcalphpkhaa

/- What main needs between two turns: rows of threads, worlds that only grew, who could go. -/
namespace Go.Proofs.Ytoabkcalphpkhaa
open Go Go.Conc Go.RowKit
open Go.Proofs.YtoabkcalphpkhaaW.PrintWords
set_option linter.unusedVariables false
set_option linter.unusedSimpArgs false
set_option linter.unusedSectionVars false
set_option maxRecDepth 100000

/-- A world that only grew. -/
structure Grown (u u1 : World) : Prop where
  blk : ∀ b, b < u.heap.size → u1.heap[b]? = u.heap[b]?
  size : u.heap.size ≤ u1.heap.size
  os : u1.os = u.os
  out : u1.output = u.output
theorem Grown.refl (u : World) : Grown u u := ⟨fun _ _ => rfl, Nat.le_refl _, rfl, rfl⟩
theorem Grown.trans {a b c : World} (h : Grown a b) (h' : Grown b c) : Grown a c := ⟨fun x hx => (h'.blk x (Nat.lt_of_lt_of_le hx h.size)).trans (h.blk x hx), Nat.le_trans h.size h'.size, h'.os.trans h.os, h'.out.trans h.out⟩
theorem Grown.on {a b : World} (h : Grown a b) (τ : Nat → Question → Nat) (d : Nat) : Grown a (b.on τ d) := ⟨h.blk, h.size, h.os, h.out⟩
theorem Grown.alloc (u : World) (o : Obj) : Grown u (u.alloc o) := ⟨fun b hb => heap_alloc hb, by rw [show (u.alloc o).heap.size = u.heap.size + 1 from Array.size_push ..]; omega, rfl, rfl⟩
theorem Grown.of_row {u w u1 : World} {row : Option Nat} (h : Grown u w) (hg : w.grownBy u1 row) (hr : ∀ k, row = some k → u.heap.size ≤ k) : Grown u u1 :=
  ⟨fun b hb => (hg.block b (Nat.lt_of_lt_of_le hb h.size) (fun e => by have := hr b e.symm; omega)).trans (h.blk b hb), Nat.le_trans h.size hg.size, hg.os.trans h.os, hg.output.trans h.out⟩
theorem Grown.cell {u u1 : World} (h : Grown u u1) {a : Addr} {v : Value} (hc : u.cell? a = some v) : u1.cell? a = some v := by
  have := h.blk a.block (World.block_lt_of_cell? u _ hc)
  rw [World.cell?_of_block this]; exact hc

section
variable {L : Lay} {Q : PQ} {n i T g : Nat} {F : Nat → Prop} {u u' u1 w1 : World} {ts : List (Nat × Nat)} {tc : Nat → TC} {s s' : Sys} {vth vtr v' : Value} {oc : Array Value} {pks : List Park} {recs : Nat → Goroutine} {Cl : Nat → Nat → Option Obj} {C : Ctx Try.prog}

theorem Held.grown (h : Held L Q ts tc s vth vtr oc pks recs Cl F u) (hg : Grown u u1) : Held L Q ts tc s vth vtr oc pks recs Cl F u1 :=
  ⟨h.lens, h.rep.move (fun b hb => hg.blk b (h.rep.sys_lt hb)) hg.os hg.out, h.heaps.step (fun b hb => .inl hb) (fun b _ _ hb => hg.blk b hb) hg.size, h.ro, h.idle, h.N0, h.ton, h.par⟩
/-- The world's own block turns. -/
theorem Held.block (h : Held L Q ts tc s vth vtr oc pks recs Cl F u) (hW : u1.heap[L.W]? = some (.cells (wCells L s' vth vtr) 80 (8, 9))) (ho : ∀ b, b ≠ L.W → u1.heap[b]? = u.heap[b]?) (hsz : u1.heap.size = u.heap.size) (hv : s'.vals = s.vals) (hc : s'.chg = s.chg) (ht : s'.trace = s.trace) (hos : u1.os = u.os) (hout : u1.output = u.output) :
    Held L Q ts tc s' vth vtr oc pks recs Cl F u1 := by
  have hrep : Rep L ts tc s' vth vtr oc u1 := h.rep.world hW (by rw [ht]; exact Row.move flat_k40 h.rep.tr fun k hk => ho k (own_ne h.rep.tr h.rep.w (by decide) hk)) (fun b _ hb _ => ho b hb) hv hc (by rw [ht]; exact Nat.le_refl _) hos hout
  exact ⟨h.lens, hrep, h.heaps.step (fun b hb => .inl hb) (fun b h1 _ _ => ho b fun e => h1 (.inl e)) (by rw [hsz]; exact Nat.le_refl _), h.ro, h.idle, h.N0, h.ton, h.par⟩
end

/-! ### rows of threads -/
theorem info45 : (Try.prog.info? 45).map (fun i => (i.zero, i.size, i.bytes)) = some (some (.pointer none), 1, 8) := by kernel_rfl
theorem ptrs_of_row {u : World} {v : Value} {xs : List Nat} {ok : Nat → Prop} (h : kP.R 45 u 0 ok v xs) : ∃ A cp, v = .slice A xs.length cp ∧ Ptrs u A xs ∧ xs.length ≤ 9223372036854775807 := by
  obtain ⟨A', c', he, hle, hr⟩ := Kd.R_reads h
  refine ⟨A', c', he, fun i hi => ?_, hr.2.1⟩
  obtain ⟨ad, e, hc⟩ := hr.2.2 (by omega)
  refine ⟨ad, e, ?_⟩
  obtain ⟨c, _, hR, hcell⟩ := hc i (xs.getD i 0) (by rw [List.getD_eq_getElem?_getD]; simp [List.getElem?_eq_getElem hi])
  have hR' : c = [ptr (xs.getD i 0)] := hR
  have := hcell 0 (ptr (xs.getD i 0)) (by rw [hR']; rfl)
  have e1 : i * kP.sz + 0 = i := by show i * 1 + 0 = i; omega
  rw [e1] at this
  exact this
theorem append_thr {a : Act} {ops : Array Oper} {o : Oper} {s x : Operand} (ho : o.op = .call { callee := .builtin .append, args := #[s, x], argTypes := #[78, 78] }) (hgd : o.guard = none) {W : World} {v : Value} {acc : List Nat} {p : Nat} {ok : Nat → Prop} (hs : a.eval s = v) (hx : a.eval x = .slice (some ⟨W.heap.size, 0, none⟩) 1 1)
    (HO : kP.R 45 W 0 ok v acc) (hl : acc.length < 1000) {Q : Act → World → Prop}
    (h : ∀ v1 w1, kP.R 45 w1 0 (fun k => ok k ∨ W.heap.size ≤ k) v1 (acc ++ [p]) → W.grownBy w1 v.ownBlock → (v1.ownBlock = v.ownBlock ∨ ∃ b, v1.ownBlock = some b ∧ W.heap.size ≤ b) → Q (a.put o.dst v1) w1) :
    wpList Try.prog ops (Only Q) [o] a (W.alloc (.cells #[ptr p] 45)) := by
  refine Kd.R_append kP (w0 := W) (base := 0) hgd s x 78 45 (.pointer none) 8 ho Try.underlying78 info45 rfl (by decide) (by decide) v acc p [ptr p] (fun k => ok k ∨ W.heap.size ≤ k) (fun _ => False) hs hx
    rfl (fun _ h => h.elim) (fun k hk => .inr hk) (Kd.R_mono HO fun k hk => .inl hk) (Below.refl 0 W) (Nat.zero_le _) (by omega) ?_
  intro v1 w1 hR _ hg hat
  exact h v1 w1 hR hg hat
theorem append_st5 {a : Act} {ops : Array Oper} {o : Oper} {s x : Operand} (ho : o.op = .call { callee := .builtin .append, args := #[s, x], argTypes := #[37, 37] }) (hgd : o.guard = none) {W : World} {v : Value} {acc : List St5} {p : St5} {ok : Nat → Prop} (hs : a.eval s = v) (hx : a.eval x = .slice (some ⟨W.heap.size, 0, none⟩) 1 1)
    (HO : k40.R 40 W 0 ok v acc) (hl : (acc.length + 1) * 40 ≤ 140737488355328) {Q : Act → World → Prop}
    (h : ∀ v1 w1, k40.R 40 w1 0 (fun k => ok k ∨ W.heap.size ≤ k) v1 (acc ++ [p]) → W.grownBy w1 v.ownBlock → (v1.ownBlock = v.ownBlock ∨ ∃ b, v1.ownBlock = some b ∧ W.heap.size ≤ b) → Q (a.put o.dst v1) w1) :
    wpList Try.prog ops (Only Q) [o] a (W.alloc (.cells #[num p.th, num p.ce, num p.op, num p.old, num p.new] 40)) := by
  refine Kd.R_append k40 (w0 := W) (base := 0) hgd s x 37 40 _ 40 ho Try.underlying37 info40 rfl (by decide) (by decide) v acc p (cells5 p) (fun k => ok k ∨ W.heap.size ≤ k) (fun _ => False) hs hx
    (k40_mkM _ _ _ _) (fun _ h => h.elim) (fun k hk => .inr hk) (Kd.R_mono HO fun k hk => .inl hk) (Below.refl 0 W) (Nat.zero_le _) hl ?_
  intro v1 w1 hR _ hg hat
  exact h v1 w1 hR hg hat

/-! ### who could go -/
def goList (s : Sys) (pks : List Park) (i : Nat) : List Nat := (List.range i).filter fun j => (pks.getD j .bad).ready s
theorem goList_succ (s : Sys) (pks : List Park) (i : Nat) : goList s pks (i + 1) = goList s pks i ++ (if (pks.getD i .bad).ready s then [i] else []) := by
  unfold goList
  rw [List.range_succ, List.filter_append]
  simp only [List.filter_cons, List.filter_nil]
theorem goList_le (s : Sys) (pks : List Park) (i : Nat) : (goList s pks i).length ≤ i := by
  unfold goList
  refine Nat.le_trans (List.length_filter_le _ _) ?_
  simp
theorem mem_goList {s : Sys} {pks : List Park} {i j : Nat} : j ∈ goList s pks i ↔ j < i ∧ (pks.getD j .bad).ready s = true := by
  unfold goList
  rw [List.mem_filter, List.mem_range]
theorem ready_of {s : Sys} {pk : Park} {t : TC} (h : parkNums pk t) (hb : pk.isBad = false) : readyOf t.st s.stuck (changedOf s.chg t.cell) t.seen = pk.ready s := by
  cases pk with
  | want c op f k => obtain ⟨h1, h2, h3⟩ := h; simp [readyOf, Park.ready, h1]
  | wait c seen k => obtain ⟨h1, h2, h3⟩ := h; simp [readyOf, Park.ready, h1, h2, h3, changedOf_nat]
  | ended out => have h : t.st = 3 := h; simp [readyOf, Park.ready, h]
  | bad => cases hb
theorem waits_of {pk : Park} {t : TC} (h : parkNums pk t) (hb : pk.isBad = false) : decide (t.st = 2) = pk.waits := by
  cases pk with
  | want c op f k => obtain ⟨h1, h2, h3⟩ := h; simp [Park.waits, h1]
  | wait c seen k => obtain ⟨h1, h2, h3⟩ := h; simp [Park.waits, h1]
  | ended out => have h : t.st = 3 := h; simp [Park.waits, h]
  | bad => cases hb
theorem sits_of_ready {s : Sys} {pk : Park} (h : pk.ready s = true) : pk.sits = true := by cases pk <;> simp [Park.ready, Park.sits] at h ⊢
theorem any_succ {pks : List Park} {i : Nat} (hi : i < pks.length) : (pks.take (i + 1)).any Park.waits = ((pks.take i).any Park.waits || (pks.getD i .bad).waits) := by
  rw [List.take_add_one, List.any_append, List.getElem?_eq_getElem hi, List.getD_eq_getElem?_getD, List.getElem?_eq_getElem hi]
  simp

/-- The first one behind 'last': by place, and by number. -/
theorem nextFrom_find (l : List Nat) (last : Int) : ∀ (d i : Nat), d = l.length - i → i ≤ l.length → l.getD (nextFrom (l.map fun (j : Nat) => (j : Int)) last d i) 0 = (((l.drop i).find? fun (j : Nat) => decide (last < (j : Int))).getD (l.getD 0 0))
  | 0, i, h, hi => by
    have : l.drop i = [] := List.drop_eq_nil_of_le (by omega)
    rw [this]; rfl
  | d + 1, i, h, hi => by
    have hlt : i < l.length := by omega
    rw [List.drop_eq_getElem_cons hlt, List.find?_cons]
    have e : (l.map fun (j : Nat) => (j : Int)).getD i 0 = (l[i] : Int) := by
      rw [List.getD_eq_getElem?_getD, List.getElem?_map, List.getElem?_eq_getElem hlt]; rfl
    simp only [nextFrom, e]
    by_cases hc : last < (l[i] : Int)
    · rw [if_pos hc, decide_eq_true hc]
      rw [List.getD_eq_getElem?_getD, List.getElem?_eq_getElem hlt]; rfl
    · rw [if_neg hc, decide_eq_false hc]
      exact nextFrom_find l last d (i + 1) (by omega) (by omega)
theorem next_eq_find (l : List Nat) (last : Int) : l.getD (nextFrom (l.map fun (j : Nat) => (j : Int)) last l.length 0) 0 = nextOf last l := by
  have := nextFrom_find l last l.length 0 (by omega) (Nat.zero_le _)
  rw [this]; rfl
theorem placeOf_lt (x : Int) {n : Nat} (hn : 0 < n) : (placeOf x n).toNat < n := by
  have b0 : x.tmod (n : Int) < n := Int.tmod_lt_of_pos _ (by omega)
  have b1 : -(n : Int) < x.tmod (n : Int) := Int.lt_tmod_of_pos _ (by omega)
  unfold placeOf
  split <;> omega
theorem pick_mem {sched : List Int} {s : Sys} {l : List Nat} (h : l ≠ []) : pickOf sched s l ∈ l := by
  have hl : 0 < l.length := List.length_pos_iff.2 h
  have g0 : ∀ k, k < l.length → l.getD k 0 ∈ l := fun k hk => by
    rw [List.getD_eq_getElem?_getD, List.getElem?_eq_getElem hk]; exact List.getElem_mem _
  unfold pickOf
  split
  · exact g0 _ (placeOf_lt _ hl)
  · unfold nextOf
    cases hf : l.find? _ with
    | none => exact g0 0 hl
    | some j => exact List.mem_of_find?_eq_some hf
theorem nextFrom_lt (ids : List Int) (last : Int) : ∀ d i, nextFrom ids last d i = 0 ∨ nextFrom ids last d i < i + d
  | 0, i => .inl rfl
  | d + 1, i => by
    simp only [nextFrom]
    split
    · right; omega
    · rcases nextFrom_lt ids last d (i + 1) with h | h
      · exact .inl h
      · right; omega

section
variable {L : Lay} {Q : PQ} {F : Nat → Prop} {u1 : World} {ts : List (Nat × Nat)} {tc : Nat → TC} {s : Sys} {vth vtr : Value} {oc : Array Value} {pks : List Park} {recs : Nat → Goroutine} {Cl : Nat → Nat → Option Obj}
/-- The schedule lies where nobody writes. -/
def Sched (L : Lay) : Prop := ∀ w : World, (∀ b o, L.ro b = some o → w.heap[b]? = some o) → Nums w L.sA L.sn L.sched ∧ L.sn ≤ 9223372036854775807
theorem Held.sched (h : Sched L) (hh : Held L Q ts tc s vth vtr oc pks recs Cl F u1) : Nums u1 L.sA L.sn L.sched ∧ L.sn ≤ 9223372036854775807 :=
  h u1 fun b o ho => hh.heaps.cl 0 b o (by rw [hh.ro]; exact ho)
/-- What a pick leaves. -/
def Picked (L : Lay) (s : Sys) (vth vtr : Value) (u1 : World) (Tj j : Nat) (v : Value) (w : World) : Prop :=
  v = ptr Tj ∧ ∃ τ d uP, w = World.on uP τ d ∧ uP.heap[L.W]? = some (.cells (wCells L { s with used := (s.picked L.sched j).used } vth vtr) 80 (8, 9)) ∧ (∀ b, b ≠ L.W → uP.heap[b]? = u1.heap[b]?) ∧ uP.heap.size = u1.heap.size ∧ uP.os = u1.os ∧ uP.output = u1.output
theorem Picked.on {vth vtr : Value} {Tj j : Nat} {v : Value} {w : World} (h : Picked L s vth vtr u1 Tj j v w) (τ : Nat → Question → Nat) (d : Nat) : Picked L s vth vtr u1 Tj j v (w.on τ d) := by
  obtain ⟨h1, τ', d', uP, rfl, h2⟩ := h
  exact ⟨h1, τ, d, uP, rfl, h2⟩
theorem pick_any (hsch : Sched L) (hh : Held L Q ts tc s vth vtr oc pks recs Cl F u1) {l : List Nat} (he : l ≠ []) (hlt : ∀ j ∈ l, j < ts.length) (hlen : l.length ≤ 1000) {B : Option Addr} {cq : Nat} (hB : Ptrs u1 B (l.map fun j => (ts.getD j (0, 0)).1)) {j : Nat} (hj : pickOf L.sched s l = j) (τ : Nat → Question → Nat) (d : Nat) :
    ∃ R : Ending → World → Prop, (∀ e w, R e w → Told Try.prog (Picked L s vth vtr u1 (ts.getD j (0, 0)).1 j) e w) ∧ Calls Try.prog 129 #[ptr L.W, .slice B l.length cq] (u1.on τ d) R := by
  obtain ⟨hsn, hsm⟩ := hh.sched hsch
  have hr := hh.rep
  have hm : (l.map fun j => (ts.getD j (0, 0)).1).length = l.length := List.length_map ..
  have hl0 : 0 < l.length := List.length_pos_iff.2 he
  have hget : ∀ k, k < l.length → (l.map fun j => (ts.getD j (0, 0)).1).getD k 0 = (ts.getD (l.getD k 0) (0, 0)).1 := fun k hk => by
    have e1 : l.getD k 0 = l[k] := by rw [List.getD_eq_getElem?_getD, List.getElem?_eq_getElem hk]; rfl
    rw [e1, List.getD_eq_getElem?_getD, List.getElem?_map, List.getElem?_eq_getElem hk]; rfl
  have hld : L.sched.length = L.sn := hsn.1
  by_cases hu : s.used < L.sn
  · refine ⟨_, ?_, pick_sched (u1.on τ d) L.W L.sA B L.sn L.sc l.length cq L.sched (l.map fun j => (ts.getD j (0, 0)).1) s.used hm hl0 (by omega) hsm hu ((blk_cell hr.w 0).trans rfl) ((blk_cell hr.w 1).trans rfl) ((blk_frozen hr.w 1).trans rfl) hsn hB⟩
    rintro e w ⟨rfl, q, rfl⟩
    have ej : l.getD (placeOf (L.sched.getD s.used 0) l.length).toNat 0 = j := by rw [← hj]; unfold pickOf; rw [if_pos (by omega)]
    refine ⟨?_, τ, d + q, u1.setCell ⟨L.W, 1, none⟩ (num ((s.used : Int) + 1)), rfl, ?_, fun b hb => blk_set_ne (a := ⟨L.W, 1, none⟩) hb _, size_set _ _, rfl, rfl⟩
    · rw [hget _ (placeOf_lt _ hl0), ej]
    · rw [blk_set hr.w]
      have e1 : (s.picked L.sched j).used = s.used + 1 := by simp only [Sys.picked]; rw [if_pos (by omega)]
      simp only [e1]
      rfl
  · refine ⟨_, ?_, pick_next (u1.on τ d) L.W L.sA B L.sn L.sc l.length cq (l.map fun j => (ts.getD j (0, 0)).1) (l.map fun (j : Nat) => (j : Int)) s.last s.used hm hl0 (by omega) hsm (by omega) ((blk_cell hr.w 0).trans rfl) ((blk_cell hr.w 1).trans rfl) ((blk_cell hr.w 2).trans rfl) hB (fun i hi => ?_)⟩
    · rintro e w ⟨rfl, q, rfl⟩
      have ej : l.getD (nextFrom (l.map fun (j : Nat) => (j : Int)) s.last l.length 0) 0 = j := by rw [next_eq_find, ← hj]; unfold pickOf; rw [if_neg (by omega)]
      refine ⟨?_, τ, d + q, u1, rfl, ?_, fun b hb => rfl, rfl, rfl, rfl⟩
      · rw [hget _ (by rcases nextFrom_lt (l.map fun (j : Nat) => (j : Int)) s.last l.length 0 with h | h <;> omega), ej]
      · rw [hr.w]
        have e1 : (s.picked L.sched j).used = s.used := by simp only [Sys.picked]; rw [if_neg (by omega)]
        rw [e1]
    · rw [hget i hi]
      have h1 := hlt (l.getD i 0) (by rw [List.getD_eq_getElem?_getD, List.getElem?_eq_getElem hi]; exact List.getElem_mem _)
      have h2 : ts[l.getD i 0]? = some ts[l.getD i 0] := List.getElem?_eq_getElem h1
      have h3 : (ts.getD (l.getD i 0) (0, 0)) = ts[l.getD i 0] := by rw [List.getD_eq_getElem?_getD, h2]; rfl
      have h4 : (l.map fun (j : Nat) => (j : Int)).getD i 0 = ((l.getD i 0 : Nat) : Int) := by
        rw [List.getD_eq_getElem?_getD, List.getElem?_map, List.getD_eq_getElem?_getD, List.getElem?_eq_getElem hi]; rfl
      rw [h3, h4]
      exact (blk_cell (hr.t _ _ h2) 1).trans rfl
end
end Go.Proofs.Ytoabkcalphpkhaa

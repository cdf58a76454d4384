/- Merged: Run51, Play17, Quiet, Same, Trace, Awake15. -/
import Derived.Test.YtoabkcalphpkhaaN18
/- play.Run: boxes and bodies are made, the world runs. (Printed by gen_run51.py.) -/
namespace Go.Proofs.Ytoabkcalphpkhaa
open Go Go.Conc Go.RowKit
open Go.Proofs.YtoabkcalphpkhaaW.PrintWords
set_option linter.unusedVariables false
set_option linter.unusedSimpArgs false
set_option linter.unusedSectionVars false
set_option maxRecDepth 100000


section
variable {Post : Value → World → Prop} {N : Nat} {S : FuncId → Bool} {list : ListOk Try.prog true S} {d : Nums0} {u : World} {fr : Frame} {cs : List Frame}
set_option maxHeartbeats 4000000 in
theorem run51 {K : Nat} {fid : FuncId} {caps : Array Value} {doP : Cal → (Ans → Proc) → Proc} {scripts : List (List Cal)} {SA : Option Addr} {scp : Nat} {fin : Sys × List Park} (hN : 0 < N) (hf : Fresh d u) (hn8 : scripts.length ≤ 8) (hlen : ∀ l ∈ scripts, l.length ≤ 64) (hin : ∀ l ∈ scripts, ∀ c ∈ l, CalIn c) (hbd : bodied Try.prog fid = true)
    (hscr : ScrAll d u SA scripts) (hdo : ∀ (L : Lay) (i T : Nat), L.W = d.W → L.cb = d.cb → L.cn = d.cn → (∀ b o, u.heap[b]? = some o → ¬ d.own b → L.ro b = some o) → DoOK (worldMode L i T) fid caps doP)
    (hrun : spawn d.sched K (scripts.map fun l => oneP doP 0 l []) d.start [] = some fin) (hroom : fin.1.trace.length ≤ roomB)
    (hn : ∀ out u', RanTo d fin u out u' → Wn (ctxP Post (N + scripts.length) S list) (fr.finish (.slice (some ⟨out, 0, none⟩) scripts.length scripts.length)) cs u') :
    Wn (ctxP Post N S list) (Frame.enter Try.prog 51 #[ptr d.W, .slice SA scripts.length scp, .func (.func fid) #[] caps] .normal) (fr :: cs) u := by
  have hfz : (ctxP Post N S list).fz = true := rfl
  refine Wn.body Try.func51 rfl ?_
  simp only [Try.ntmps51, List.size_toArray, List.length_cons, List.length_nil, Nat.reduceAdd, Nat.reduceSub, Array.replicate_succ, Array.replicate_zero, List.push_toArray, List.append_toArray, List.nil_append, List.cons_append]
  refine Wn.seq (Wn.reg (by simp [base]) (by rw [hfz]; kernel_rfl) ?_)
  go_wp2_with fail
  refine ⟨rfl, ?_⟩
  have g1 := Grown.alloc u (.cells #[.func (.func fid) #[] caps] 82)
  have hdb : (u.alloc (.cells #[.func (.func fid) #[] caps] 82)).heap[u.heap.size]? = some (.cells #[.func (.func fid) #[] caps] 82 (0, 0)) := heap_alloc_new _ _
  have hs1 : (u.alloc (.cells #[.func (.func fid) #[] caps] 82)).heap.size = u.heap.size + 1 := Array.size_push ..
  generalize u.alloc (.cells #[.func (.func fid) #[] caps] 82) = u1 at g1 hdb hs1 ⊢
  have HS1 : Hid _ := hs1
  clear hs1
  refine Wn.seq (Wn.open ?_)
  refine Wn.span1 0 2 5 (by simp [base]) (by decide) (by decide) (by rw [hfz]; kernel_rfl) ?_
  simp only [List.take, List.drop]
  go_wp2_with fail
  refine ⟨rfl, ?_⟩
  refine Wn.opT 2 3 2 rfl (by simp [base]) rfl rfl fun τ e => ?_
  refine wpList_plain rfl fun K hK => ?_
  unfold Oper.wp
  rw [make31 (n := scripts.length) rfl (by omega) rfl rfl]
  refine hK _ _ (?_ : Wn (ctxP Post N S list) _ _ _)
  refine Wn.on (u := u1.alloc (.cells (madeCells (Value.slice none 0 0).cells (scripts.length * 1)) 31)) ?_ τ e
  have hsz : (u1.on τ e).heap.size = u1.heap.size := rfl
  rw [hsz]
  clear hsz hK K
  have hz0 : (madeCells (Value.slice none 0 0).cells (scripts.length * 1)).size = scripts.length := by rw [size_madeCells, Nat.mul_one]
  generalize madeCells (Value.slice none 0 0).cells (scripts.length * 1) = oc0 at hz0 ⊢
  have g2 := g1.trans (Grown.alloc u1 (.cells oc0 31))
  have hdb2 : (u1.alloc (.cells oc0 31)).heap[u.heap.size]? = some (Obj.cells #[Value.func (Fn.func fid) #[] caps] 82 (0, 0)) := (heap_alloc (blk_lt hdb)).trans hdb
  have hout : (u1.alloc (.cells oc0 31)).heap[u1.heap.size]? = some (.cells oc0 31 (0, 0)) := heap_alloc_new _ _
  have hs2 : Hid ((u1.alloc (.cells oc0 31)).heap.size = u1.heap.size + 1) := Array.size_push ..
  have houtN : Hid (u.heap.size ≤ u1.heap.size) := g1.size
  generalize u1.alloc (.cells oc0 31) = u2 at g2 hdb2 hout hs2 ⊢
  have hdbl : Hid (u.heap.size < u1.heap.size) := by have := HS1.out; show u.heap.size < u1.heap.size; omega
  generalize u1.heap.size = out at hout hs2 houtN hdbl ⊢
  clear hdb g1 HS1
  refine Wn.span1 3 2 2 (by simp [base]) (by decide) (by decide) (by rw [hfz]; kernel_rfl) ?_
  simp only [List.take, List.drop]
  go_wp2_with fail
  refine ⟨rfl, ?_⟩
  refine Wn.range_end ?_
  have g3 := g2.trans (Grown.alloc u2 (.cells #[.slice (some ⟨out, 0, none⟩) scripts.length scripts.length] 27))
  have hob : (u2.alloc (.cells #[.slice (some ⟨out, 0, none⟩) scripts.length scripts.length] 27)).heap[u2.heap.size]? = some (.cells #[.slice (some ⟨out, 0, none⟩) scripts.length scripts.length] 27 (0, 0)) := heap_alloc_new _ _
  have hdb3 : (u2.alloc (.cells #[.slice (some ⟨out, 0, none⟩) scripts.length scripts.length] 27)).heap[u.heap.size]? = _ := (heap_alloc (blk_lt hdb2)).trans hdb2
  have hout3 : (u2.alloc (.cells #[.slice (some ⟨out, 0, none⟩) scripts.length scripts.length] 27)).heap[out]? = _ := (heap_alloc (blk_lt hout)).trans hout
  have hobN : Hid (u.heap.size < u2.heap.size) := by have h1 := hs2.out; have h2 := hdbl.out; show u.heap.size < u2.heap.size; omega
  have hoo : Hid (out < u2.heap.size) := blk_lt hout
  generalize u2.alloc (.cells #[.slice (some ⟨out, 0, none⟩) scripts.length scripts.length] 27) = u3 at g3 hob hdb3 hout3 ⊢
  generalize u2.heap.size = ob at hob hobN hoo ⊢
  clear hs2 hout hdb2 g2 u2
  obtain ⟨db, edb⟩ : ∃ db, Hid (db = u.heap.size) := ⟨_, rfl⟩
  rw [← edb.out] at hdb3 ⊢
  refine Wn.seq (Wn.reg (by simp [base]) (by rw [hfz]; kernel_rfl) ?_)
  go_wp2_with fail
  refine ⟨rfl, ?_⟩
  refine Wn.seq (Wn.seq (Wn.reg (by simp [base]) (by rw [hfz]; kernel_rfl) ?_))
  go_wp2_with fail
  refine ⟨rfl, ?_⟩
  refine Wn.block ?_
  refine Wn.loop_ind (f := scripts.length - 0 + 1) (fun f a u1 C1 => C1 = ctxP Post N S list ∧ ∃ (i : Nat) (vb : Value) (ps : List (Nat × Nat)), f = scripts.length - i + 1 ∧ i ≤ scripts.length ∧ ps.length = i ∧ Grown u3 u1 ∧ (kB db ob).R 53 u1 0 (fun k => u3.heap.size ≤ k) vb ps ∧ Hid (BoxesOf d u u3 u1 scripts ps) ∧ ∃ x9 x10 x17 x18 x19 x20 x21 x22 x23 x24 x25, a = { tmps := #[ptr d.W, .slice SA scripts.length scp, .func (.func fid) #[] caps, undef, undef, .pointer (some ⟨db, 0, none⟩), .slice none 0 0, .pointer (some ⟨ob, 0, none⟩), vb, x9, x10, .slice SA scripts.length scp, num scripts.length, .slice (some ⟨out, 0, none⟩) scripts.length scripts.length, .slice SA scripts.length scp, num scripts.length, num i, x17, x18, x19, x20, x21, x22, x23, x24, x25, undef, undef, undef, undef], defers := [] }) ?_ ?_ ⟨rfl, 0, _, [], rfl, Nat.zero_le _, rfl, Grown.refl u3, Kd.R_nil _ _ _ _ _, (show Hid (BoxesOf d u u3 u3 scripts []) from fun j p h => by cases h), _, _, _, _, _, _, _, _, _, _, _, rfl⟩
  · rintro f ih a u1 C1 ⟨rfl, i, vb, ps, hf', hi, hpl, hg, hR, hps, x9, x10, x17, x18, x19, x20, x21, x22, x23, x24, x25, rfl⟩
    have hfz1 : (ctxP Post N S list).fz = true := rfl
    have HPL : Hid (ps.length = i) := hpl
    clear hpl
    have hgu := g3.trans hg
    by_cases hend : i < scripts.length
    · have hli : scripts[i]? = some scripts[i] := List.getElem?_eq_getElem hend
      obtain ⟨ad, A, acp, rfl, hsw0⟩ := hscr i _ hli
      have q0 := (hsw0 u1 hgu.stays).1
      have hsw : Hid (∀ w, Stays d u w → Scr w A scripts[i]) := fun w hw => (hsw0 w hw).2
      have HLI : Hid _ := hli
      clear hli hsw0
      generalize scripts[i] = l at q0 hsw HLI
      have d1 : decide ((i : Int) < (scripts.length : Int)) = true := decide_eq_true (by omega)
      refine Wn.seq (Wn.reg (by simp [base]) (by rw [hfz1]; kernel_rfl) ?_)
      go_wp2_with fail
      refine ⟨rfl, ?_⟩
      refine Wn.seq (Wn.cond rfl ?_)
      simp only [if_true]
      clear d1
      have d1 : decide ((i : Int) < (scripts.length : Int)) = true := decide_eq_true (by omega)
      have d2 : decide ((0 : Int) ≤ (i : Int)) = true := decide_eq_true (by omega)
      have d3 : (i : Int) < (scripts.length : Int) := by omega
      have d4 : (0 : Int) ≤ (i : Int) := by omega
      refine Wn.skip (Wn.seq (Wn.block ?_))
      refine Wn.seq (Wn.reg (by simp [base]) (by rw [hfz1]; kernel_rfl) ?_)
      go_wp2_with fail
      refine ⟨rfl, ?_⟩
      clear d1 d2 d3 d4 q0
      have hg2 := Grown.two u1 (.cells #[num i] 3) (.cells #[.slice A l.length acp] 32)
      have hib : ((u1.alloc (.cells #[num i] 3)).alloc (.cells #[.slice A l.length acp] 32)).heap[u1.heap.size]? = some (.cells #[num i] 3 (0, 0)) := heap_alloc2_old ..
      have hlb : ((u1.alloc (.cells #[num i] 3)).alloc (.cells #[.slice A l.length acp] 32)).heap[u1.heap.size + 1]? = some (.cells #[.slice A l.length acp] 32 (0, 0)) := heap_alloc2_new ..
      have hibN : Hid (u3.heap.size ≤ u1.heap.size) := hg.size
      generalize (u1.alloc (.cells #[num i] 3)).alloc (.cells #[.slice A l.length acp] 32) = u4 at hg2 hib hlb ⊢
      have hgB := hg.trans hg2
      have hR1 : (kB db ob).R 53 u4 0 (fun k => u3.heap.size ≤ k) vb ps := R_flat (flat_kB db ob) hR (fun k hk => hg2.blk k (Kd.R_lt hR k hk)) hR.1
      have hps1 : Hid (BoxesOf d u u3 u4 scripts ps) := fun j p hj => by
        obtain ⟨A', cp', l', h1, h2, h3, h4⟩ := hps.out j p hj
        exact ⟨A', cp', l', h1, (hg2.blk _ (blk_lt h2)).trans h2, (hg2.blk _ (blk_lt h3)).trans h3, h4⟩
      clear hps hR hg2 hgu hg
      generalize u1.heap.size = ib at hib hlb hibN ⊢
      clear u1
      refine Wn.open ?_
      refine Wn.span1 0 3 5 (by simp [base]) (by decide) (by decide) (by rw [hfz1]; kernel_rfl) ?_
      simp only [List.take, List.drop]
      go_wp2_with fail
      refine ⟨rfl, ?_⟩
      refine Wn.opT 3 2 1 rfl (by simp [base]) rfl rfl fun τ e => ?_
      refine append_body (W := u4.on τ e) (p := (ib + 1, ib)) (s := .tmp 21) (x := .tmp 23) (v := vb) (acc := ps) (ok := fun k => u3.heap.size ≤ k) rfl rfl rfl rfl (R_flat (flat_kB db ob) hR1 (fun _ _ => rfl) hR1.1) (by have := HPL.out; omega) ?_
      intro v1 w1 hRw hgw hat
      have hgD : Grown u3 w1 := (hgB.on τ e).of_row hgw fun k hk => hR1.1 k hk
      have hR2 : (kB db ob).R 53 w1 0 (fun k => u3.heap.size ≤ k) v1 (ps ++ [(ib + 1, ib)]) := Kd.R_mono hRw fun k hk => hk.elim (fun h => h) fun h => Nat.le_trans hgB.size h
      have hold : ∀ {b t : Nat} {c : Array Value} {z : Nat × Nat}, u4.heap[b]? = some (.cells c t z) → 53 ≠ t → w1.heap[b]? = some (.cells c t z) := fun {b t c z} hb ht => (hgw.block b (blk_lt hb) fun e => own_ne (Kd.R_mono hR1 fun _ _ => trivial) hb ht e.symm rfl).trans hb
      have hps2 : Hid (BoxesOf d u u3 w1 scripts (ps ++ [(ib + 1, ib)])) := fun j p hj => by
        rcases getElem?_snoc_some hj with ⟨h1, h2⟩ | ⟨h1, rfl⟩
        · obtain ⟨A', cp', l', h1, h2, h3, h4⟩ := hps1.out j p h2
          exact ⟨A', cp', l', h1, hold h2 (by decide), hold h3 (by decide), h4⟩
        · have h1 : j = i := h1.trans HPL.out
          subst h1
          have := hibN.out
          exact ⟨A, acp, l, HLI.out, hold hlb (by decide), hold hib (by decide), hsw, by show _ ≤ ib + 1; omega, this⟩
      clear hps1 hR1 hRw hgw hat hold hib hlb hgB
      refine Wn.span1 4 1 1 (by simp [base]) (by decide) (by decide) (by rw [hfz1]; kernel_rfl) ?_
      simp only [List.take, List.drop]
      go_wp2_with fail
      refine ⟨rfl, ?_⟩
      refine Wn.range_end (Wn.inBlock ?_)
      refine Wn.reg (by simp [base]) (by rw [hfz1]; kernel_rfl) ?_
      go_wp2_with fail
      refine ⟨rfl, ?_⟩
      refine ih _ _ _ ⟨rfl, i + 1, v1, ps ++ [(ib + 1, ib)], by omega, by omega, (by rw [List.length_append, HPL.out]; rfl), hgD, hR2, hps2, _, _, _, _, _, _, _, _, _, _, _, rfl⟩
    · have hil : i = scripts.length := by omega
      subst hil
      have d1 : decide ((scripts.length : Int) < (scripts.length : Int)) = false := decide_eq_false (by omega)
      obtain ⟨BA, bcp, ev, hbods⟩ := bods_of_row hR
      rw [HPL.out] at ev
      subst ev
      have HR : Hid _ := hR
      have HB : Hid _ := hbods
      clear hR hbods
      refine Wn.seq (Wn.reg (by simp [base]) (by rw [hfz1]; kernel_rfl) ?_)
      go_wp2_with fail
      refine ⟨rfl, ?_⟩
      refine Wn.seq (Wn.cond rfl ?_)
      simp only [Bool.false_eq_true, if_false]
      clear d1
      refine Wn.exit rfl ?_
      refine Wn.seq (Wn.open ?_)
      refine Wn.span1 0 2 3 (by simp [base]) (by decide) (by decide) (by rw [hfz1]; kernel_rfl) ?_
      simp only [List.take, List.drop]
      go_wp2_with fail
      refine ⟨rfl, ?_⟩
      refine Wn.callC 2 1 0 rfl (by simp [base]) rfl rfl rfl (by kernel_rfl) ?_
      have hps := hps.out
      have hpl := HPL.out
      have hff := hf.grown hgu
      have edb := edb.out
      have hobN := hobN.out
      have hoo := hoo.out
      have houtN := houtN.out
      have hob1 := (hg.blk _ (blk_lt hob)).trans hob
      have hdb1 := (hg.blk _ (blk_lt hdb3)).trans hdb3
      have hout1 := (hg.blk _ (blk_lt hout3)).trans hout3
      have hnown : ∀ {b : Nat}, u.heap.size ≤ b → ¬ d.own b := fun hb h => by have := hf.own_lt h; omega
      have hro : ∀ b o, u.heap[b]? = some o → ¬ d.own b → (layOf Post N d out scripts.length u1).ro b = some o := fun b o h1 h2 => layOf_ro ((hgu.blk b (blk_lt h1)).trans h1) h2 (by have := blk_lt h1; omega)
      have hst : ∀ w : World, (∀ b o, (layOf Post N d out scripts.length u1).ro b = some o → w.heap[b]? = some o) → Stays d u w := fun w hw b o h1 h2 => hw b o (hro b o h1 h2)
      have hrnew : ∀ {b : Nat} {o : Obj}, u1.heap[b]? = some o → u3.heap.size ≤ b → (layOf Post N d out scripts.length u1).ro b = some o := fun h1 h2 => layOf_ro h1 (hnown (Nat.le_trans g3.size h2)) (by have := blk_lt hout3; omega)
      -- the world's own block is frozen
      refine Wn.reguard (C' := ctxOf (layOf Post N d out scripts.length u1) [] [] (fun _ => gr (base 0) []) none 0 (by simp)) (u' := layW u1 d.W (.cells #[.slice d.sA d.sn d.sc, num 0, num (-1), .slice (some ⟨d.cA, 0, none⟩) d.cn d.cc, .slice none 0 0, .slice none 0 0, .bool false, .bool false, .chan (some d.back)] 80 (8, 9))) rfl rfl rfl seats_nil
        (fun w hw => like_frz hw (T := d.W) (r := (8, 9)) (by show gd _ [] d.W = _; unfold gd; rw [if_neg (by simp)]; exact if_pos rfl) rfl (fun b hb => by show gd _ [] b = _; unfold gd; rw [if_neg (by simp)]; exact if_neg hb) hff.w (layW_at (blk_lt hff.w)) (fun b hb => layW_ne hb) layW_size rfl rfl) ?_
      refine run77 (N := K) (pn := scripts.length) (procs := scripts.map fun l => oneP doP 0 l []) (bods := ps.map fun p => bodyV p.1 db ob p.2) (BA := BA) (bcp := bcp) (s0 := d.start) (fin := fin) (L := layOf Post N d out scripts.length u1) (by show scripts.length ≤ 1000; omega) (List.length_map ..).symm (by rw [List.length_map]; exact Nat.le_refl _) (by rw [List.length_map, List.length_map]; exact hpl) ?_ ?_ ?_ ?_ hrun hroom ?_ ?_ ?_ ?_
      · intro w hw
        refine nums_of_row (Row.move flat_kI hf.sch fun k hk => ?_)
        obtain ⟨c, hc⟩ := own_ty hf.sch hk
        rw [hst w hw k _ hc ?_, hc]
        rintro (e | e | e | e)
        · exact ne_of_ty hc hf.w (by decide) e
        · exact ne_of_chan hc hf.back e
        · exact hf.schO k hk e
        · obtain ⟨q, hq⟩ := List.mem_iff_getElem?.1 e
          exact ne_of_ty hc (hf.c q k hq) (by decide) rfl
      · intro w hw q bv hq
        rw [List.getElem?_map] at hq
        obtain ⟨p, hp, rfl⟩ := Option.map_eq_some_iff.1 hq
        have hRw : (kB db ob).R 53 w 0 (fun _ => True) (.slice BA scripts.length bcp) ps := R_flat (flat_kB db ob) HR.out (fun k hk => by
          obtain ⟨c, hc⟩ := Kd.R_typed HR.out k hk
          rw [hw k _ (hrnew hc (HR.out.1 k hk)), hc]) fun _ _ => trivial
        obtain ⟨A', cp', e, hb⟩ := bods_of_row hRw
        injection e with e1 e2 e3
        subst e1
        exact hb q p hp
      · intro bv hbv
        obtain ⟨p, _, rfl⟩ := List.mem_map.1 hbv
        exact ⟨_, _, rfl⟩
      · intro q T p bv F w C' hp hb hat
        rw [List.getElem?_map] at hp hb
        obtain ⟨l, hl, rfl⟩ := Option.map_eq_some_iff.1 hp
        obtain ⟨p, hp, rfl⟩ := Option.map_eq_some_iff.1 hb
        obtain ⟨A, acp, l', h1, h2, h3, h4, h5, h6⟩ := hps q p hp
        rw [hl] at h1
        obtain rfl := Option.some.inj h1
        have hdbl := hdbl.out
        have hm := List.mem_of_getElem? hl
        exact life101 (hdo _ q T rfl rfl rfl hro) hbd (hlen l hm) (hin l hm) (fun w hw => h4.out w (hst w hw)) (hrnew h2 h5) (layOf_ro hdb1 (hnown (by omega)) (by omega)) (layOf_ro hob1 (hnown (by omega)) (by omega)) (hrnew h3 h6) hat
      · exact (blk_cell (layW_at (blk_lt hff.w)) 7).trans rfl
      · exact (blk_frozen (layW_at (blk_lt hff.w)) 7).trans rfl
      · exact start_held hN hff hout1 hz0
      · intro u' C' hat
        obtain ⟨ts, tc, s, vth, vtr, oc, pks, recs, Cl, hh, hC, e1, e2⟩ := hat
        have e1 : s = fin.1 := e1
        have e2 : pks = fin.2 := e2
        subst e1; subst e2; subst hC
        obtain ⟨hfl, hended⟩ := spawn_ended _ _ _ _ hrun (fun pk h => by cases h)
        rw [List.length_map] at hfl
        have hfl : fin.2.length = scripts.length := by simpa using hfl
        have htl : ts.length = scripts.length := by rw [← hh.lens]; exact hfl
        have hsits : ∀ pk ∈ fin.2, pk.sits = false := fun pk h => by rw [hended pk h]; rfl
        have hr := hh.rep
        have hclm : ∀ j b o, Cl j b = some o → (thawW (gd (layOf Post N d out scripts.length u1) ts) u').heap[b]? = some o := fun j b o h => (thawW_free (hh.gd_sys (hh.heaps.cls j b o h))).trans (hh.heaps.cl j b o h)
        have hcl0 : ∀ b o, (layOf Post N d out scripts.length u1).ro b = some o → (thawW (gd (layOf Post N d out scripts.length u1) ts) u').heap[b]? = some o := fun b o h => hclm 0 b o (by rw [hh.ro]; exact h)
        have hranto : RanTo d fin u out (thawW (gd (layOf Post N d out scripts.length u1) ts) u') := by
          refine ⟨⟨vth, vtr, ?_, ?_⟩, ⟨oc, ?_, ?_, fun j pk hj => ?_⟩, fun b o h1 h2 => hcl0 b o (hro b o h1 h2), houtN, hr.os.trans hgu.os, hr.outp.trans hgu.out, hended⟩
          · refine thawW_cells ?_ hr.w
            show gd (layOf Post N d out scripts.length u1) ts d.W ≠ none
            unfold gd
            rw [if_neg (show ¬ d.W ∈ ts.map (·.1) from hh.hW), if_pos (show d.W = (layOf Post N d out scripts.length u1).W from rfl)]
            exact fun e => by cases e
          · refine Row.move flat_k40 hr.tr fun k hk => ?_
            obtain ⟨c, hc⟩ := own_ty hr.tr hk
            exact thawW_free (hh.gd_cells hc (by decide) (by decide))
          · exact (thawW_free (hh.gd_cells hr.o (by decide) (by decide))).trans hr.o
          · rw [hr.olen, hfl]; rfl
          · have hjl := (List.getElem?_eq_some_iff.1 hj).1
            have htj : ts[j]? = some ts[j] := List.getElem?_eq_getElem (by omega)
            obtain ⟨v, hv, hw⟩ := (hh.par j _ _ htj hj).2.2 (outOf pk) (hended pk (List.mem_of_getElem? hj))
            refine ⟨v, hv, Kd.R_mono (hw _ (hclm (j + 1))) fun k hk => ?_⟩
            obtain ⟨o, ho⟩ := hk
            refine Nat.le_of_not_lt fun hlt => ?_
            have hns := hh.heaps.cls _ _ _ ho
            have hno : ¬ d.own k := by
              rintro (e | e | e | e)
              · exact hns (.inl e)
              · exact hns (.inr (.inl e))
              · exact hns (.inr (.inr (.inl e)))
              · exact hns (.inr (.inr (.inr (.inr (.inl e)))))
            have h0 := hro k _ (Array.getElem?_eq_getElem hlt) hno
            have h0' : Cl 0 k = _ := (congrFun hh.ro k).trans h0
            have := hh.heaps.dis 0 (j + 1) k _ _ h0' ho
            omega
        have hobT := hcl0 ob _ (layOf_ro hob1 (hnown (by omega)) (by omega))
        refine Wn.reguard (C' := ctxP Post (N + scripts.length) S list) (u' := thawW (gd (layOf Post N d out scripts.length u1) ts) u') rfl (by show N + scripts.length = N + ts.length; rw [htl]) rfl (seats_ended hsits).symm (fun w hw => thaw_like hw) ?_
        generalize thawW (gd (layOf Post N d out scripts.length u1) ts) u' = u4 at hranto hobT ⊢
        have HRAN : Hid _ := hranto
        have HN : Hid _ := hn
        have q0 : u4.cell? ⟨ob, 0, none⟩ = some (.slice (some ⟨out, 0, none⟩) scripts.length scripts.length) := (blk_cell hobT 0).trans rfl
        have hfz4 : (ctxP Post (N + scripts.length) S list).fz = true := rfl
        rw [Frame.finish_at]
        refine Wn.range_end ?_
        clear hranto hn hst hro hrnew hnown hps
        refine Wn.seq (Wn.reg (by simp [base]) (by rw [hfz4]; kernel_rfl) ?_)
        go_wp2_with fail
        refine ⟨rfl, ?_⟩
        refine Wn.ret ?_
        refine Wn.back rfl rfl Try.func51 (results_tmp rfl _ _ _) ?_
        exact HN.out out u4 HRAN.out
  · rintro a u1 C1 ⟨_, i, vb, ps, hf', _⟩
    omega
end
end Go.Proofs.Ytoabkcalphpkhaa

/- latch.Play. (Printed by gen_play17.py.) -/
namespace Go.Proofs.Ytoabkcalphpkhaa
open Go Go.Conc Go.RowKit
open Go.Proofs.YtoabkcalphpkhaaW.PrintWords
set_option linter.unusedVariables false
set_option linter.unusedSimpArgs false
set_option linter.unusedSectionVars false
set_option maxRecDepth 100000

/-- Scripts, none of them within the world's own block. -/
def ScrW (W : Nat) (u : World) (SA : Option Addr) (scripts : List (List Cal)) : Prop :=
  ∀ (i : Nat) (l : List Cal), scripts[i]? = some l → ∃ ad A cp, SA = some ad ∧ ad.block ≠ W ∧ (∀ aa, A = some aa → l ≠ [] → aa.block ≠ W) ∧ u.cell? (ad.add i) = some (.slice A l.length cp) ∧ Scr u A l
theorem ScrW.lists {W : Nat} {u : World} {SA : Option Addr} {scripts : List (List Cal)} (h : ScrW W u SA scripts) : Lists u SA scripts := fun i l hl => by
  obtain ⟨ad, A, cp, h1, _, _, h4, _⟩ := h i l hl
  exact ⟨ad, A, cp, h1, h4⟩
theorem add_block (a : Addr) (k : Nat) : (a.add k).block = a.block := by unfold Addr.add; split <;> rfl
theorem cell_obj {u : World} {a : Addr} {v : Value} (h : u.cell? a = some v) : ∃ c t z, u.heap[a.block]? = some (.cells c t z) := by
  unfold World.cell? at h
  split at h
  · rename_i c t z hb
    exact ⟨c, t, z, hb⟩
  · cases h
theorem Scr.move {u w : World} {A : Option Addr} {l : List Cal} (h : Scr u A l) (hb : ∀ aa, A = some aa → w.heap[aa.block]? = u.heap[aa.block]?) : Scr w A l := fun i c hc => by
  obtain ⟨ad, e, h0, h1, h2, h3⟩ := h i c hc
  have hbb := hb ad e
  have key : ∀ {a : Addr} {v : Value}, a.block = ad.block → u.cell? a = some v → w.cell? a = some v := fun ha hv => (World.cell?_of_block (w := u) (w' := w) (by rw [ha]; exact hbb)).trans hv
  exact ⟨ad, e, key (add_block ..) h0, key (add_block ..) h1, key (add_block ..) h2, key (add_block ..) h3⟩
/-- Scripts that lie apart from a world's own blocks stay while it runs. -/
theorem scrAll_of {W : Nat} {u u1 : World} {d : Nums0} {SA : Option Addr} {scripts : List (List Cal)} (h : ScrW W u SA scripts) (hk : ∀ b c t z, u.heap[b]? = some (.cells c t z) → b ≠ W → u1.heap[b]? = some (.cells c t z) ∧ ¬ d.own b) : ScrAll d u1 SA scripts := fun i l hl => by
  obtain ⟨ad, A, cp, h1, h2, h3, h4, h5⟩ := h i l hl
  refine ⟨ad, A, cp, h1, fun w hw => ⟨?_, ?_⟩⟩
  · obtain ⟨c, t, z, hb⟩ := cell_obj h4
    rw [add_block] at hb
    obtain ⟨k1, k2⟩ := hk _ c t z hb h2
    have := hw _ _ k1 k2
    rw [World.cell?_of_block (w := u) (by rw [add_block, this, hb])]
    exact h4
  · by_cases hl0 : l = []
    · subst hl0
      intro i c hc
      cases hc
    · obtain ⟨c0, l', rfl⟩ := List.exists_cons_of_ne_nil hl0
      obtain ⟨aa, eA, q0, _⟩ := h5 0 c0 rfl
      refine h5.move fun a' ea => ?_
      rw [eA] at ea
      obtain rfl := Option.some.inj ea
      obtain ⟨c, t, z, hb⟩ := cell_obj q0
      rw [add_block] at hb
      obtain ⟨k1, k2⟩ := hk _ c t z hb (h3 _ eA (by simp))
      rw [hw _ _ k1 k2, hb]

/-- What a Play leaves. -/
structure Played (W back : Nat) (fin : Sys × List Park) (u u' : World) (v : Value) : Prop where
  v : ∃ out oc, v = .slice (some ⟨out, 0, none⟩) fin.2.length fin.2.length ∧ u.heap.size ≤ out ∧ u'.heap[out]? = some (.cells oc 31 (0, 0)) ∧ oc.size = fin.2.length ∧ ∀ (j : Nat) (pk : Park), fin.2[j]? = some pk → ∃ vj, oc[j]? = some vj ∧ kA.R 34 u' 0 (fun k => u.heap.size ≤ k) vj (outOf pk)
  w : ∃ sv cv vth vtr, u'.heap[W]? = some (.cells #[sv, num fin.1.used, num fin.1.last, cv, vth, vtr, .bool fin.1.stuck, .bool true, .chan (some back)] 80 (0, 0)) ∧ Row k40 40 u' vtr fin.1.trace
  keep : ∀ b o, u.heap[b]? = some o → b ≠ W → b ≠ back → u'.heap[b]? = some o
  os : u'.os = u.os
  outp : u'.output = u.output
  ended : ∀ pk ∈ fin.2, pk = .ended (outOf pk)

theorem mayOf_zero {scripts : List (List Cal)} {r : Bool} (h : mayOf scripts r = 0) : (∀ l ∈ scripts, l.length ≤ 64) ∧ 1 ≤ scripts.length ∧ scripts.length ≤ 8 := by
  unfold mayOf at h
  split at h
  · cases h
  · rename_i h1
    split at h
    · cases h
    · rename_i h2
      refine ⟨fun l hl => ?_, by omega, by omega⟩
      refine Nat.le_of_not_lt fun hlt => h1 (List.any_eq_true.2 ⟨l, hl, decide_eq_true hlt⟩)
theorem latch_do {L : Lay} {i T b lb bx f : Nat} (hcn : L.cn = 1) (hcb : L.cb = [b]) (hl : L.ro lb = some (.cells #[ptr b] 90 (0, 0))) (hx : L.ro bx = some (.cells #[ptr lb] 43 (0, 0))) : DoOK (worldMode L i T) 50 #[ptr bx] (doLatch f) := by
  intro c k F u C fr cs hin h hn
  refine do50 (M := worldMode L i T) (lb := lb) (bx := bx) h (by show 0 < L.cn; omega) ?_ hx hn
  show L.ro lb = some (.cells #[ptr (L.cb.getD 0 0)] 90 (0, 0))
  rw [hcb]; exact hl

section
variable {Post : Value → World → Prop} {N : Nat} {u : World} {fr : Frame} {cs : List Frame} {W back : Nat} {sv : Value} {sched : List Int}
set_option maxHeartbeats 2000000 in
theorem latchPlay17 {K f : Nat} {scripts : List (List Cal)} {SA : Option Addr} {scp : Nat} {n : Int} {fin : Sys × List Park} (hN : 0 < N) (hf : Fresh0 W back sv (.slice none 0 0) sched 0 [] [] u) (hsc : ScrW W u SA scripts) (hmx : scripts.length ≤ 9223372036854775806) (hin : ∀ l ∈ scripts, ∀ c ∈ l, CalIn c) (hv : In64 n)
    (hrun : mayOf scripts false = 0 → 0 ≤ n → spawn sched K (scripts.map fun l => oneP (doLatch f) 0 l []) ⟨0, -1, [n], [0], [], false⟩ [] = some fin ∧ fin.1.trace.length ≤ roomB)
    (hbad : mayOf scripts false ≠ 0 → Wn (ctxP Post N S0 list0) (fr.finish (.tuple #[.slice none 0 0, num (mayOf scripts false)])) cs u)
    (hneg : mayOf scripts false = 0 → n < 0 → Wn (ctxP Post N S0 list0) (fr.finish (.tuple #[.slice none 0 0, num 1])) cs u)
    (hn : mayOf scripts false = 0 → 0 ≤ n → ∀ v u', Played W back fin u u' v → Wn (ctxP Post (N + scripts.length) S0 list0) (fr.finish (.tuple #[v, num 0])) cs u') :
    Wn (ctxP Post N S0 list0) (Frame.enter Try.prog 17 #[ptr W, num n, .slice SA scripts.length scp] .normal) (fr :: cs) u := by
  have hfz : (ctxP Post N S0 list0).fz = true := rfl
  have hrun : Hid _ := hrun
  have hbad : Hid _ := hbad
  have hneg : Hid _ := hneg
  have hn : Hid _ := hn
  refine Wn.body Try.func17 rfl ?_
  simp only [Try.ntmps17, List.size_toArray, List.length_cons, List.length_nil, Nat.reduceAdd, Nat.reduceSub, Array.replicate_succ, Array.replicate_zero, List.push_toArray, List.append_toArray, List.nil_append, List.cons_append]
  refine Wn.seq (Wn.reg (by simp [base]) (by rw [hfz]; kernel_rfl) ?_)
  go_wp2_with fail
  refine ⟨rfl, ?_⟩
  refine Wn.seq (Wn.seq (Wn.open ?_))
  refine Wn.span1 0 2 4 (by simp [base]) (by decide) (by decide) (by rw [hfz]; kernel_rfl) ?_
  simp only [List.take, List.drop]
  go_wp2_with fail
  refine ⟨rfl, ?_⟩
  refine Wn.callC 2 2 1 rfl (by simp [base]) rfl rfl rfl (by kernel_rfl) ?_
  refine may49 hfz hmx hsc.lists ((blk_cell hf.w 7).trans rfl) ?_
  rw [Frame.finish_at]
  refine Wn.span1 3 1 1 (by simp [base]) (by decide) (by decide) (by rw [hfz]; kernel_rfl) ?_
  simp only [List.take, List.drop]
  go_wp2_with fail
  refine ⟨rfl, ?_⟩
  refine Wn.range_end ?_
  by_cases hm : mayOf scripts false = 0
  · have hrun := hrun.out hm
    have hneg := hneg.out hm
    have hn := hn.out hm
    have hrun : Hid _ := hrun
    have hneg : Hid _ := hneg
    have hn : Hid _ := hn
    have HM : Hid _ := hm
    rw [hm]
    clear hbad hm
    by_cases h0 : n < 0
    · have hneg := hneg.out h0
      have hneg : Hid _ := hneg
      have d1 : decide (n < 0) = true := decide_eq_true h0
      clear hrun hn
      refine Wn.seq (Wn.reg (by simp [base]) (by rw [hfz]; kernel_rfl) ?_)
      go_wp2_with fail
      refine ⟨rfl, ?_⟩
      refine Wn.cond rfl ?_
      simp only [Bool.false_eq_true, if_false]
      refine Wn.skip (Wn.seq (Wn.seq (Wn.reg (by simp [base]) (by rw [hfz]; kernel_rfl) ?_)))
      go_wp2_with fail
      refine ⟨rfl, ?_⟩
      refine Wn.cond rfl ?_
      simp only [if_true]
      refine Wn.seq (Wn.reg (by simp [base]) (by rw [hfz]; kernel_rfl) ?_)
      go_wp2_with fail
      refine ⟨rfl, ?_⟩
      refine Wn.ret ?_
      refine Wn.back rfl rfl Try.func17 (results_list (rs := [.tmp 6, .tmp 7]) rfl (by simp) (.tmp (.tmp .nil))) ?_
      exact hneg.out
    · have h0' : 0 ≤ n := by omega
      have hrun := hrun.out h0'
      have hn := hn.out h0'
      have hrun : Hid _ := hrun
      have hn : Hid _ := hn
      have d1 : decide (n < 0) = false := decide_eq_false h0
      have H0 : Hid (0 ≤ n) := h0'
      clear hneg h0'
      refine Wn.seq (Wn.reg (by simp [base]) (by rw [hfz]; kernel_rfl) ?_)
      go_wp2_with fail
      refine ⟨rfl, ?_⟩
      refine Wn.cond rfl ?_
      simp only [Bool.false_eq_true, if_false]
      refine Wn.skip (Wn.seq (Wn.seq (Wn.reg (by simp [base]) (by rw [hfz]; kernel_rfl) ?_)))
      go_wp2_with fail
      refine ⟨rfl, ?_⟩
      refine Wn.cond rfl ?_
      simp only [Bool.false_eq_true, if_false]
      clear d1
      refine Wn.skip (Wn.seq (Wn.open ?_))
      refine Wn.span1 0 2 5 (by simp [base]) (by decide) (by decide) (by rw [hfz]; kernel_rfl) ?_
      simp only [List.take, List.drop]
      go_wp2_with fail
      refine ⟨rfl, ?_⟩
      refine Wn.callC 2 3 2 rfl (by simp [base]) rfl rfl rfl (by kernel_rfl) ?_
      refine latchNew20 hfz hf H0.out hv ?_
      intro b lb cv u1 hf1 hk1 hown hbN hlbN hlb
      rw [Frame.finish_at]
      have HF : Hid _ := hf1
      have HK : Hid _ := hk1
      have HO : Hid _ := hown
      have HB : Hid _ := hbN
      have HL : Hid _ := hlb
      clear hf hf1 hk1 hown hbN hlb
      refine Wn.span1 3 2 2 (by simp [base]) (by decide) (by decide) (by rw [hfz]; kernel_rfl) ?_
      simp only [List.take, List.drop]
      go_wp2_with fail
      refine ⟨rfl, ?_⟩
      have hg := Grown.alloc u1 (.cells #[ptr lb] 43)
      have hbx : (u1.alloc (.cells #[ptr lb] 43)).heap[u1.heap.size]? = some (.cells #[ptr lb] 43 (0, 0)) := heap_alloc_new _ _
      generalize u1.alloc (.cells #[ptr lb] 43) = u2 at hg hbx ⊢
      generalize u1.heap.size = bx at hbx ⊢
      refine Wn.range_end (n := 0) ?_
      refine Wn.seq (Wn.reg (by simp [base]) (by rw [hfz]; kernel_rfl) ?_)
      go_wp2_with fail
      refine ⟨rfl, ?_⟩
      refine Wn.seq (Wn.open ?_)
      refine Wn.span1 0 3 6 (by simp [base]) (by decide) (by decide) (by rw [hfz]; kernel_rfl) ?_
      simp only [List.take, List.drop]
      go_wp2_with fail
      refine ⟨rfl, ?_⟩
      refine Wn.callC 3 3 2 rfl (by simp [base]) rfl rfl rfl (by kernel_rfl) ?_
      have hf2 := HF.out.grown hg
      have hk1 := HK.out
      have hown := HO.out
      have hlb := (hg.blk _ (blk_lt HL.out)).trans HL.out
      obtain ⟨hlen, h1, h8⟩ := mayOf_zero HM.out
      obtain ⟨hrun, hroom⟩ := hrun.out
      obtain ⟨d, hfr, rfl, rfl, hcb, hvals, rfl, hcn, hcvo, hsv, hcv⟩ := Fresh0.fresh (cb := [b]) hf2 (Nat.zero_lt_one)
      have hcA : u.heap.size ≤ d.cA := (hown d.cA hcvo).elim (fun h => by cases h) fun h => h
      have hcbN : ∀ c ∈ d.cb, u.heap.size ≤ c := fun c hc => by rw [hcb, List.mem_singleton] at hc; rw [hc]; exact HB.out
      have hold : ∀ b' o, u.heap[b']? = some o → b' ≠ d.W → b' ≠ d.back → u2.heap[b']? = some o ∧ ¬ d.own b' := fun b' o h1 h2 h3 => by
        have h4 := hk1.blk b' o h1 h2 (fun e => by cases e)
        have h5 := blk_lt h1
        refine ⟨(hg.blk _ (blk_lt h4)).trans h4, ?_⟩
        rintro (e | e | e | e)
        · exact h2 e
        · exact h3 e
        · omega
        · have := hcbN _ e; omega
      have hnot : ∀ {b' t : Nat} {c : Array Value} {z : Nat × Nat}, u2.heap[b']? = some (.cells c t z) → t ≠ 80 → t ≠ 3 → t ≠ 105 → ¬ d.own b' := fun {b' t c z} h1 h2 h3 h4 => by
        rintro (e | e | e | e)
        · exact ne_of_ty h1 hfr.w h2 e
        · exact ne_of_chan h1 hfr.back e
        · obtain ⟨c', h'⟩ := own_ty hfr.ch (k := d.cA) rfl
          exact ne_of_ty h1 h' h3 e
        · obtain ⟨q, hq⟩ := List.mem_iff_getElem?.1 e
          exact ne_of_ty h1 (hfr.c q _ hq) h4 rfl
      have hbackN : ∀ {b' t : Nat} {c : Array Value} {z : Nat × Nat}, u.heap[b']? = some (.cells c t z) → b' ≠ d.W → b' ≠ d.back := fun {b' t c z} h1 h2 e => by
        have h4 := hk1.blk b' _ h1 h2 (fun e => by cases e)
        exact ne_of_chan ((hg.blk _ (blk_lt h4)).trans h4) hfr.back e
      have es : d.start = ⟨0, -1, [n], [0], [], false⟩ := by unfold Nums0.start; rw [hvals, hcn]; rfl
      refine run51 (d := d) (K := K) (fid := 50) (caps := #[ptr bx]) (doP := doLatch f) (fin := fin) hN hfr h8 hlen hin (by kernel_rfl) (scrAll_of hsc fun b' c t z h1 h2 => hold b' _ h1 h2 (hbackN h1 h2)) (fun L i T hLW hLcb hLcn hro => latch_do (b := b) (lb := lb) (bx := bx) (hLcn.trans hcn) (hLcb.trans hcb) (hro lb _ hlb (hnot hlb (by decide) (by decide) (by decide))) (hro bx _ hbx (hnot hbx (by decide) (by decide) (by decide)))) (by rw [es]; exact hrun) hroom ?_
      intro out u' hr
      have hfl := (spawn_ended _ _ _ _ hrun (fun pk h => by cases h)).1
      rw [List.length_map] at hfl
      have hfl : fin.2.length = scripts.length := by simpa using hfl
      have hpl : Played d.W d.back fin u u' (.slice (some ⟨out, 0, none⟩) scripts.length scripts.length) := by
        obtain ⟨vth, vtr, hw1, hw2⟩ := hr.w
        obtain ⟨oc, ho1, ho2, ho3⟩ := hr.o
        have hsz : u.heap.size ≤ u2.heap.size := Nat.le_trans hk1.size hg.size
        refine ⟨⟨out, oc, by rw [hfl], Nat.le_trans hsz hr.outN, ho1, ho2, fun j pk hj => ?_⟩, ⟨_, _, vth, vtr, hw1, hw2⟩, fun b' o h1 h2 h3 => ?_, hr.os.trans (hg.os.trans hk1.os), hr.outp.trans (hg.out.trans hk1.out), hr.ended⟩
        · obtain ⟨vj, h1, h2⟩ := ho3 j pk hj
          exact ⟨vj, h1, Kd.R_mono h2 fun k hk => Nat.le_trans hsz hk⟩
        · obtain ⟨h4, h5⟩ := hold b' o h1 h2 h3
          exact hr.keep b' o h4 h5
      have HN := hn.out _ u' hpl
      have HN : Hid _ := HN
      have hfz2 : (ctxP Post (N + scripts.length) S0 list0).fz = true := rfl
      rw [Frame.finish_at]
      clear hold hnot hbackN hpl hr hcbN hfl es
      refine Wn.span1 4 2 2 (by simp [base]) (by decide) (by decide) (by rw [hfz2]; kernel_rfl) ?_
      simp only [List.take, List.drop]
      go_wp2_with fail
      refine ⟨rfl, ?_⟩
      refine Wn.range_end (n := 0) (Wn.ret ?_)
      refine Wn.back rfl rfl Try.func17 (results_list (rs := [.tmp 6, .tmp 7]) rfl (by simp) (.tmp (.tmp .nil))) ?_
      exact HN.out
  · have hbad := hbad.out hm
    have hbad : Hid _ := hbad
    obtain ⟨e, he⟩ : ∃ e, Hid (e = mayOf scripts false) := ⟨_, rfl⟩
    rw [← he.out] at hm hbad ⊢
    have d1 : (e != 0) = true := bne_iff_ne.mpr hm
    have d2 : decide (e = 0) = false := decide_eq_false hm
    have d3 : (e == 0) = false := beq_eq_false_iff_ne.mpr hm
    clear hrun hneg hn he
    refine Wn.seq (Wn.reg (by simp [base]) (by rw [hfz]; kernel_rfl) ?_)
    go_wp2_with fail
    refine ⟨rfl, ?_⟩
    refine Wn.cond rfl ?_
    simp only [if_true]
    refine Wn.seq (Wn.reg (by simp [base]) (by rw [hfz]; kernel_rfl) ?_)
    go_wp2_with fail
    refine ⟨rfl, ?_⟩
    refine Wn.ret ?_
    refine Wn.back rfl rfl Try.func17 (results_list (rs := [.tmp 6, .tmp 7]) rfl (by simp) (.tmp (.tmp .nil))) ?_
    exact hbad.out
end
end Go.Proofs.Ytoabkcalphpkhaa

/- Drawn regions that change nothing, in the midst of a frame. -/
namespace Go.Proofs.Ytoabkcalphpkhaa
open Go Go.Conc Go.RowKit
set_option linter.unusedVariables false
set_option linter.unusedSimpArgs false
set_option linter.unusedSectionVars false
set_option maxRecDepth 100000
section
variable {P : Program} {C : Ctx P} {cs : List Frame} {b : Frame} {a : Act} {k : List Item} {u : World} {c : Code}
theorem Wn.quiet (hkd : b.kind ≠ .early) (hok : codeOk P C.fz C.S c = true)
    (h : ∃ T : Array Value, (∀ w : World, w.heap = u.heap → c.wp P (Only fun a' u' => a'.tmps = T ∧ u'.heap = w.heap ∧ u'.os = w.os ∧ u'.output = w.output) { tmps := a.tmps, defers := [] } w) ∧ Wn C (b.at { tmps := T, defers := a.defers } k) cs u) : Wn C (b.at a (.code c :: k)) cs u := by
  obtain ⟨T, h, hn⟩ := h
  refine Wn.seg (K := fun a' u' => a'.tmps = T ∧ u'.heap = u.heap ∧ u'.os = u.os ∧ u'.output = u.output) hkd hok (fun a u τ d h => h) (fun τ d => h (u.on τ d) rfl) ?_
  rintro a' u' ⟨h1, h2, h3, h4⟩
  rw [h1]
  have e : u' = u.on u'.tape u'.drawn := by
    cases u'; cases u
    simp only at h2 h3 h4
    subst h2; subst h3; subst h4
    rfl
  rw [e]
  exact hn.on _ _
end
theorem plain_okq : (plainL.all fun f => bodied Try.prog f && (match (Try.prog.funcs[f]?).bind (·.body) with | some c => codeOk Try.prog false S0 c | none => false)) = true := by kernel_rfl
theorem list0q : ListOk Try.prog false S0 where
  bodied f hf := by
    have := List.all_eq_true.1 plain_okq f (by simpa [S0] using hf)
    simp only [Bool.and_eq_true] at this
    exact this.1
  code f hf c hc := by
    have := List.all_eq_true.1 plain_okq f (by simpa [S0] using hf)
    simp only [Bool.and_eq_true, hc] at this
    exact this.2
  ahead := by kernel_rfl
  ready g := list0.ready g
/-- Nobody else is about, and nothing is frozen. -/
def ctxQ (Post : Value → World → Prop) (N : Nat) : Ctx Try.prog where
  Post := Post
  N := N
  h := 0
  I := fun _ => none
  Gd := fun _ => none
  fz := false
  S := S0
  list := list0q
  thaw _ _ := rfl
  cover := by intro i s h; cases h
theorem Wn.toP {Post : Value → World → Prop} {N : Nat} {fr : Frame} {cs : List Frame} {u : World} {S : FuncId → Bool} {l} (h : Wn (ctxP Post N S l) fr cs u) : Wn (ctxQ Post N) fr cs u := Wn.reguard (C' := ctxP Post N S l) rfl rfl rfl rfl (fun _ h => h) h
theorem Wn.toQ {Post : Value → World → Prop} {N : Nat} {fr : Frame} {cs : List Frame} {u : World} {S : FuncId → Bool} {l} (h : Wn (ctxQ Post N) fr cs u) : Wn (ctxP Post N S l) fr cs u := Wn.reguard (C' := ctxQ Post N) rfl rfl rfl rfl (fun _ h => h) h
end Go.Proofs.Ytoabkcalphpkhaa

/- butlerref02.SameAnswers, of equal ones; (*World).Trace. (Printed by gen_same.py.) -/
namespace Go.Proofs.Ytoabkcalphpkhaa
open Go Go.Conc Go.RowKit
open Go.Proofs.YtoabkcalphpkhaaW.PrintWords
set_option linter.unusedVariables false
set_option linter.unusedSimpArgs false
set_option linter.unusedSectionVars false
set_option maxRecDepth 100000

theorem cell_of_heap {u w : World} {a : Addr} {v : Value} (hw : w.heap = u.heap) (h : u.cell? a = some v) : w.cell? a = some v := by unfold World.cell? at h ⊢; rw [hw]; exact h
/-- Rows of answers, as they can be read. -/
def AnsRows (u : World) (A : Option Addr) (xs : List (List Ans)) : Prop :=
  ∀ (i : Nat) (l : List Ans), xs[i]? = some l → ∃ ad Ai ci, A = some ad ∧ u.cell? (ad.add i) = some (.slice Ai l.length ci) ∧ l.length ≤ 9223372036854775806 ∧ ∀ (k : Nat) (a : Ans), l[k]? = some a → ∃ bd, Ai = some bd ∧ u.cell? (bd.add (k * 2)) = some (num a.code) ∧ u.cell? ⟨(bd.add (k * 2)).block, (bd.add (k * 2)).off + 1, none⟩ = some (num a.val)

section
variable {C : Ctx Try.prog} {u : World} {fr : Frame} {cs : List Frame} {W back : Nat}
set_option maxHeartbeats 4000000 in
theorem same48 (hfz : C.fz = false) {A B : Option Addr} {ca cb : Nat} {xs : List (List Ans)} (hmx : xs.length ≤ 9223372036854775806) (hA : AnsRows u A xs) (hB : AnsRows u B xs) (hn : Wn C (fr.finish (.bool true)) cs u) :
    Wn C (Frame.enter Try.prog 48 #[.slice A xs.length ca, .slice B xs.length cb] .normal) (fr :: cs) u := by
  refine Wn.body Try.func48 rfl ?_
  simp only [Try.ntmps48, List.size_toArray, List.length_cons, List.length_nil, Nat.reduceAdd, Nat.reduceSub, Array.replicate_succ, Array.replicate_zero, List.push_toArray, List.append_toArray, List.nil_append, List.cons_append]
  refine Wn.seq (Wn.reg (by simp [base]) (by rw [hfz]; kernel_rfl) ?_)
  go_wp2_with fail
  refine ⟨rfl, ?_⟩
  refine Wn.seq (Wn.seq (Wn.reg (by simp [base]) (by rw [hfz]; kernel_rfl) ?_))
  go_wp2_with fail
  refine ⟨rfl, ?_⟩
  refine Wn.cond rfl ?_
  simp only [Bool.false_eq_true, if_false]
  refine Wn.skip (Wn.seq (Wn.seq (Wn.reg (by simp [base]) (by rw [hfz]; kernel_rfl) ?_)))
  go_wp2_with fail
  refine ⟨rfl, ?_⟩
  refine Wn.block ?_
  refine Wn.loop_ind (f := xs.length - 0 + 1) (fun f a u1 C1 => u1 = u ∧ C1 = C ∧ ∃ (i : Nat), f = xs.length - i + 1 ∧ i ≤ xs.length ∧ ∃ x6 x12 x13 x14 x15 x16 x17 x18 x19 x20 x21 x22 x23 x24 x25 x26 x27 x28 x29 x30 x31 x32 x33 x34 x35 x36 x37 x38 x39 x40 x41 x42 x43 x44 x45 x46 x47 x48 x49 x50 x51 x52, a = { tmps := #[.slice A xs.length ca, .slice B xs.length cb, undef, undef, .bool false, num i, x6, .slice A xs.length ca, num xs.length, .slice B xs.length cb, num xs.length, .bool false, x12, x13, x14, x15, x16, x17, x18, x19, x20, x21, x22, x23, x24, x25, x26, x27, x28, x29, x30, x31, x32, x33, x34, x35, x36, x37, x38, x39, x40, x41, x42, x43, x44, x45, x46, x47, x48, x49, x50, x51, x52], defers := [] }) ?_ ?_ ⟨rfl, rfl, 0, rfl, Nat.zero_le _, _, _, _, _, _, _, _, _, _, _, _, _, _, _, _, _, _, _, _, _, _, _, _, _, _, _, _, _, _, _, _, _, _, _, _, _, _, _, _, _, _, _, rfl⟩
  · rintro f ih a u1 C1 ⟨rfl, rfl, i, hf', hi, x6, x12, x13, x14, x15, x16, x17, x18, x19, x20, x21, x22, x23, x24, x25, x26, x27, x28, x29, x30, x31, x32, x33, x34, x35, x36, x37, x38, x39, x40, x41, x42, x43, x44, x45, x46, x47, x48, x49, x50, x51, x52, rfl⟩
    by_cases hend : i < xs.length
    · have hli : xs[i]? = some xs[i] := List.getElem?_eq_getElem hend
      obtain ⟨ad, Ai, ci, rfl, q0, hmA, hAk⟩ := hA i _ hli
      obtain ⟨bd, Bi, di, rfl, q1, _, hBk⟩ := hB i _ hli
      clear hli
      generalize xs[i] = l at q0 q1 hAk hBk hmA
      have d1 : decide ((i : Int) < (xs.length : Int)) = true := decide_eq_true (by omega)
      refine Wn.seq (Wn.seq (Wn.reg (by simp [base]) (by rw [hfz]; kernel_rfl) ?_))
      go_wp2_with fail
      refine ⟨rfl, ?_⟩
      refine Wn.cond rfl ?_
      simp only [if_true]
      clear d1
      have d1 : decide ((i : Int) < (xs.length : Int)) = true := decide_eq_true (by omega)
      have d2 : decide ((0 : Int) ≤ (i : Int)) = true := decide_eq_true (by omega)
      have d3 : (i : Int) < (xs.length : Int) := by omega
      have d4 : (0 : Int) ≤ (i : Int) := by omega
      refine Wn.skip (Wn.seq (Wn.block ?_))
      refine Wn.seq (Wn.seq (Wn.quiet (by simp [base]) (by rw [hfz]; kernel_rfl) ?_))
      apply Exists.intro
      refine ⟨fun w hw => ?_, ?_⟩
      · have wq0 := cell_of_heap hw q0
        have wq1 := cell_of_heap hw q1
        have hw : Hid _ := hw
        go_quiet (fail)
        exact ⟨rfl, rfl, rfl, rfl⟩
      simp only [bne_self_eq_false]
      refine Wn.cond rfl ?_
      simp only [Bool.false_eq_true, if_false]
      refine Wn.skip (Wn.seq (Wn.reg (by simp [base]) (by rw [hfz]; kernel_rfl) ?_))
      go_wp2_with fail
      refine ⟨rfl, ?_⟩
      refine Wn.block ?_
      refine Wn.loop_ind (f := l.length - 0 + 1) (fun f a u2 C2 => u2 = u1 ∧ C2 = C1 ∧ ∃ (k : Nat), f = l.length - k + 1 ∧ k ≤ l.length ∧ ∃ x12 x13 x14 x15 x16 x17 x18 x19 x20 x21 x22 x23 x24 x25 x26 x27 x28 x29 x30 x31 x32 x33 x34 x35 x36 x37 x38 x39 x40 x41 x42 x43 x44 x45 x46 x47 x48 x49 x50 x51 x52, a = { tmps := #[.slice (some ad) xs.length ca, .slice (some bd) xs.length cb, undef, undef, .bool false, num i, num k, .slice (some ad) xs.length ca, num xs.length, .slice (some bd) xs.length cb, num xs.length, .bool false, x12, x13, x14, x15, x16, x17, x18, x19, x20, x21, x22, x23, x24, x25, x26, x27, x28, x29, x30, x31, x32, x33, x34, x35, x36, x37, x38, x39, x40, x41, x42, x43, x44, x45, x46, x47, x48, x49, x50, x51, x52], defers := [] }) ?_ ?_ ⟨rfl, rfl, 0, rfl, Nat.zero_le _, _, _, _, _, _, _, _, _, _, _, _, _, _, _, _, _, _, _, _, _, _, _, _, _, _, _, _, _, _, _, _, _, _, _, _, _, _, _, _, _, _, rfl⟩
      · rintro g ih2 a u2 C2 ⟨rfl, rfl, k, hg', hk, x12, x13, x14, x15, x16, x17, x18, x19, x20, x21, x22, x23, x24, x25, x26, x27, x28, x29, x30, x31, x32, x33, x34, x35, x36, x37, x38, x39, x40, x41, x42, x43, x44, x45, x46, x47, x48, x49, x50, x51, x52, rfl⟩
        by_cases hke : k < l.length
        · have hlk : l[k]? = some l[k] := List.getElem?_eq_getElem hke
          obtain ⟨ae, rfl, r0, r1⟩ := hAk k _ hlk
          obtain ⟨be, rfl, r2, r3⟩ := hBk k _ hlk
          generalize l[k] = an at r0 r1 r2 r3
          have e1 : decide ((k : Int) < (l.length : Int)) = true := decide_eq_true (by omega)
          have e2 : decide ((0 : Int) ≤ (k : Int)) = true := decide_eq_true (by omega)
          have e3 : (k : Int) < (l.length : Int) := by omega
          have e4 : (0 : Int) ≤ (k : Int) := by omega
          refine Wn.seq (Wn.seq (Wn.reg (by simp [base]) (by rw [hfz]; kernel_rfl) ?_))
          go_wp2_with fail
          refine ⟨rfl, ?_⟩
          refine Wn.cond rfl ?_
          simp only [if_true]
          refine Wn.skip (Wn.seq (Wn.block ?_))
          refine Wn.seq (Wn.quiet (by simp [base]) (by rw [hfz]; kernel_rfl) ?_)
          apply Exists.intro
          refine ⟨fun w hw => ?_, ?_⟩
          · have wq0 := cell_of_heap hw q0
            have wq1 := cell_of_heap hw q1
            have wr0 := cell_of_heap hw r0
            have wr1 := cell_of_heap hw r1
            have wr2 := cell_of_heap hw r2
            have wr3 := cell_of_heap hw r3
            have hw : Hid _ := hw
            go_quiet (fail)
            exact ⟨rfl, rfl, rfl, rfl⟩
          simp only [bne_self_eq_false]
          refine Wn.cond rfl ?_
          simp only [Bool.false_eq_true, if_false]
          refine Wn.skip (Wn.inBlock ?_)
          refine Wn.reg (by simp [base]) (by rw [hfz]; kernel_rfl) ?_
          go_wp2_with fail
          refine ⟨rfl, ?_⟩
          refine ih2 _ _ _ ⟨rfl, rfl, k + 1, by omega, by omega, _, _, _, _, _, _, _, _, _, _, _, _, _, _, _, _, _, _, _, _, _, _, _, _, _, _, _, _, _, _, _, _, _, _, _, _, _, _, _, _, _, rfl⟩
        · have hkl : k = l.length := by omega
          subst hkl
          have e1 : decide ((l.length : Int) < (l.length : Int)) = false := decide_eq_false (by omega)
          have d2 : decide ((0 : Int) ≤ (i : Int)) = true := decide_eq_true (by omega)
          refine Wn.seq (Wn.seq (Wn.reg (by simp [base]) (by rw [hfz]; kernel_rfl) ?_))
          go_wp2_with fail
          refine ⟨rfl, ?_⟩
          refine Wn.cond rfl ?_
          simp only [Bool.false_eq_true, if_false]
          refine Wn.exit rfl (Wn.inBlock ?_)
          clear d1 d2 d3 d4 e1
          refine Wn.reg (by simp [base]) (by rw [hfz]; kernel_rfl) ?_
          go_wp2_with fail
          refine ⟨rfl, ?_⟩
          refine ih _ _ _ ⟨rfl, rfl, i + 1, by omega, by omega, _, _, _, _, _, _, _, _, _, _, _, _, _, _, _, _, _, _, _, _, _, _, _, _, _, _, _, _, _, _, _, _, _, _, _, _, _, _, _, _, _, _, rfl⟩
      · rintro a u2 C2 ⟨_, _, k, hg', _⟩
        omega
    · have hil : i = xs.length := by omega
      subst hil
      have d1 : decide ((xs.length : Int) < (xs.length : Int)) = false := decide_eq_false (by omega)
      refine Wn.seq (Wn.seq (Wn.reg (by simp [base]) (by rw [hfz]; kernel_rfl) ?_))
      go_wp2_with fail
      refine ⟨rfl, ?_⟩
      refine Wn.cond rfl ?_
      simp only [Bool.false_eq_true, if_false]
      refine Wn.exit rfl ?_
      clear d1
      refine Wn.seq (Wn.reg (by simp [base]) (by rw [hfz]; kernel_rfl) ?_)
      go_wp2_with fail
      refine ⟨rfl, ?_⟩
      refine Wn.ret ?_
      refine Wn.back rfl rfl Try.func48 (results_tmp rfl _ _ _) ?_
      exact hn
  · rintro a u1 C1 ⟨_, _, i, hf', _⟩
    omega
end
end Go.Proofs.Ytoabkcalphpkhaa

/- (*World).Trace. (Printed by gen_trace.py.) -/
namespace Go.Proofs.Ytoabkcalphpkhaa
open Go Go.Conc Go.RowKit
open Go.Proofs.YtoabkcalphpkhaaW.PrintWords
set_option linter.unusedVariables false
set_option linter.unusedSimpArgs false
set_option linter.unusedSectionVars false
set_option maxRecDepth 100000

theorem copy_st5 {a : Act} {ops : Array Oper} {o : Oper} {s x : Operand} (ho : o.op = .call { callee := .builtin .append, args := #[s, x], argTypes := #[37, 37] }) (hgd : o.guard = none) {W : World} {A : Option Addr} {m c : Nat} {tr : List St5} (hs : a.eval s = .slice none 0 0) (hx : a.eval x = .slice A m c)
    (HR : k40.C W A m tr) (hl : m * 40 ≤ 140737488355328) {Q : Act → World → Prop}
    (h : ∀ v1 w1, k40.R 40 w1 0 (fun k => W.heap.size ≤ k) v1 tr → W.grownBy w1 none → Q (a.put o.dst v1) w1) :
    wpList Try.prog ops (Only Q) [o] a W := by
  refine Kd.R_append_rows k40 (w0 := W) 0 hgd s x 37 40 _ 40 ho Try.underlying37 info40 rfl (by decide) (by decide) (.slice none 0 0) [] tr A m c (fun k => W.heap.size ≤ k) (fun _ => False) hs hx (Kd.R_nil _ _ _ _ _) HR (fun _ _ h => h) (fun _ h => h.elim) (fun _ h => h) (Below.refl 0 W) (Nat.zero_le _) (by simpa using hl) ?_
  intro v1 w1 hR _ hg _
  exact h v1 w1 hR hg

section
variable {C : Ctx Try.prog} {u : World} {fr : Frame} {cs : List Frame} {W : Nat}
set_option maxHeartbeats 1000000 in
theorem trace18 {fz : Bool} (hfz : C.fz = fz) {vtr : Value} {tr : List St5} (h5 : u.cell? ⟨W, 5, none⟩ = some vtr) (hR : Row k40 40 u vtr tr) (hl : tr.length ≤ roomB) (hn : ∀ v u', k40.R 40 u' 0 (fun k => u.heap.size ≤ k) v tr → Grown u u' → Wn C (fr.finish v) cs u') :
    Wn C (Frame.enter Try.prog 18 #[ptr W] .normal) (fr :: cs) u := by
  have hl40 : tr.length * 40 ≤ 140737488355328 := by unfold roomB at hl; omega
  obtain ⟨A, c, e, _, hC⟩ := Kd.R_reads hR
  subst e
  clear hl
  have HL : Hid _ := hl40
  clear hl40
  refine Wn.body Try.func18 rfl ?_
  simp only [Try.ntmps18, List.size_toArray, List.length_cons, List.length_nil, Nat.reduceAdd, Nat.reduceSub, Array.replicate_succ, Array.replicate_zero, List.push_toArray, List.append_toArray, List.nil_append, List.cons_append]
  refine Wn.seq (Wn.reg (by simp [base]) (by rw [hfz]; cases fz <;> kernel_rfl) ?_)
  go_wp2_with fail
  refine ⟨rfl, ?_⟩
  refine Wn.seq (Wn.seq (Wn.reg (by simp [base]) (by rw [hfz]; cases fz <;> kernel_rfl) ?_))
  go_wp2_with fail
  refine ⟨rfl, ?_⟩
  refine Wn.cond rfl ?_
  simp only [Bool.false_eq_true, if_false]
  refine Wn.skip (Wn.seq (Wn.open ?_))
  refine Wn.span1 0 4 6 (by simp [base]) (by decide) (by decide) (by rw [hfz]; cases fz <;> kernel_rfl) ?_
  simp only [List.take, List.drop]
  go_wp2_with fail
  refine ⟨rfl, ?_⟩
  refine Wn.opT 4 2 1 rfl (by simp [base]) rfl (by rw [hfz]; cases fz <;> rfl) fun τ d => ?_
  refine copy_st5 (W := u.on τ d) (s := .const (.slice none 0 0)) (x := .tmp 8) rfl rfl rfl rfl (show k40.C (u.on τ d) A tr.length tr from hC) HL.out ?_
  intro v1 w1 hR1 hg1
  have hgr : Grown u w1 := ⟨fun b hb => hg1.block b hb (fun e => by cases e), hg1.size, hg1.os, hg1.output⟩
  have HN := hn v1 w1 hR1 hgr
  obtain ⟨A1, c1, e1⟩ := Kd.R_slice hR1
  subst e1
  have HN : Hid _ := HN
  clear hn hR1 hg1 hgr
  refine Wn.span1 5 1 1 (by simp [base]) (by decide) (by decide) (by rw [hfz]; cases fz <;> kernel_rfl) ?_
  simp only [List.take, List.drop]
  go_wp2_with fail
  refine ⟨rfl, ?_⟩
  refine Wn.range_end (n := 0) (Wn.ret ?_)
  refine Wn.back rfl rfl Try.func18 (results_tmp rfl _ _ _) ?_
  exact HN.out
end
end Go.Proofs.Ytoabkcalphpkhaa

/- butlerlaw05's awake. (Printed by gen_awake15.py.) -/
namespace Go.Proofs.Ytoabkcalphpkhaa
open Go Go.Conc Go.RowKit
open Go.Proofs.YtoabkcalphpkhaaW.PrintWords
set_option linter.unusedVariables false
set_option linter.unusedSimpArgs false
set_option linter.unusedSectionVars false
set_option maxRecDepth 100000

theorem ans_of_row {u : World} {v : Value} {l : List Ans} {ok : Nat → Prop} (h : kA.R 34 u 0 ok v l) (hmx : l.length ≤ 1000) : ∃ Ai ci, v = .slice Ai l.length ci ∧ l.length ≤ 9223372036854775806 ∧ ∀ (k : Nat) (a : Ans), l[k]? = some a → ∃ bd, Ai = some bd ∧ u.cell? (bd.add (k * 2)) = some (num a.code) ∧ u.cell? ⟨(bd.add (k * 2)).block, (bd.add (k * 2)).off + 1, none⟩ = some (num a.val) := by
  obtain ⟨A, c, e, hle, hC⟩ := Kd.R_reads h
  refine ⟨A, c, e, by omega, fun k a hk => ?_⟩
  · have hlt := (List.getElem?_eq_some_iff.1 hk).1
    obtain ⟨g, cap, e2⟩ := own_slice h (by omega)
    rw [e2] at e
    injection e with e1 e3 e4
    subst e1
    obtain ⟨ad, ea, hc⟩ := hC.2.2 (by omega)
    cases ea
    obtain ⟨cc, h1, hR, hcell⟩ := hc k a hk
    obtain ⟨c0, c1, e5, h6, h7⟩ := hR
    have e6 : c0 = [num a.code] := h6
    have e7 : c1 = [num a.val] := h7
    subst e6; subst e7; subst e5
    refine ⟨_, rfl, ?_, ?_⟩
    · have := hcell 0 (num a.code) rfl
      exact this
    · have := hcell 1 (num a.val) rfl
      rw [addr_add] at this ⊢
      exact this
theorem Played.rows {W back : Nat} {fin : Sys × List Park} {u u' u2 : World} {v : Value} (h : Played W back fin u u' v) (hmx : ∀ l ∈ fin.2.map outOf, l.length ≤ 1000) (hg : Grown u' u2) : ∃ out, v = .slice (some ⟨out, 0, none⟩) fin.2.length fin.2.length ∧ AnsRows u2 (some ⟨out, 0, none⟩) (fin.2.map outOf) := by
  obtain ⟨out, oc, h1, h2, h3, h4, h5⟩ := h.v
  refine ⟨out, h1, fun i l hl => ?_⟩
  rw [List.getElem?_map] at hl
  obtain ⟨pk, hpk, rfl⟩ := Option.map_eq_some_iff.1 hl
  obtain ⟨vj, h6, h7⟩ := h5 i pk hpk
  have h8 : kA.R 34 u2 0 (fun _ => True) vj (outOf pk) := R_flat flat_kA h7 (fun k hk => hg.blk k (Kd.R_lt h7 k hk)) fun _ _ => trivial
  obtain ⟨Ai, ci, e, hmx, hr⟩ := ans_of_row h8 (hmx _ (List.mem_map_of_mem (List.mem_of_getElem? hpk)))
  refine ⟨_, Ai, ci, rfl, ?_, hmx, hr⟩
  rw [addr_add, ← e, blk_cell ((hg.blk _ (blk_lt h3)).trans h3) i]
  exact h6
/-- Answers that were built. -/
theorem ans_built {u : World} {g : Nat} {l : List (List Ans)} {cs : Array Value} {t : Nat} (h : u.heap[g]? = some (.cells cs t (0, 0))) (hc : ∀ (i : Nat) (x : List Ans), l[i]? = some x → ∃ b, cs[i]? = some (.slice (some ⟨b, 0, none⟩) x.length x.length) ∧ x.length ≤ 1000 ∧ ∃ bc t', u.heap[b]? = some (.cells bc t' (0, 0)) ∧ ∀ (k : Nat) (a : Ans), x[k]? = some a → bc[k * 2]? = some (num a.code) ∧ bc[k * 2 + 1]? = some (num a.val)) : AnsRows u (some ⟨g, 0, none⟩) l := fun i x hx => by
  obtain ⟨b, h1, h2, bc, t', h3, h4⟩ := hc i x hx
  refine ⟨_, some ⟨b, 0, none⟩, x.length, rfl, ?_, by omega, fun k a hk => ?_⟩
  · rw [addr_add, blk_cell h i]; exact h1
  · obtain ⟨h5, h6⟩ := h4 k a hk
    refine ⟨_, rfl, ?_, ?_⟩
    · rw [addr_add, blk_cell h3]; exact h5
    · rw [addr_add]
      show u.cell? ⟨b, k * 2 + 1, none⟩ = _
      rw [blk_cell h3]; exact h6

def awRun : Option (Sys × List Park) := spawn [] 20 ([[(⟨1, 0, 0, 0⟩ : Cal)], [⟨2, 0, 0, 0⟩]].map fun l => oneP (doLatch 10) 0 l []) ⟨0, -1, [1], [0], [], false⟩ []
theorem awake_fin : ∃ fin, awRun = some fin ∧ fin.1.trace.length = 9 ∧ fin.2.map outOf = [[⟨0, 0⟩], [⟨0, 0⟩]] := by
  have h : awRun.map (fun fin => (fin.1.trace.length, fin.2.map outOf)) = some (9, [[⟨0, 0⟩], [⟨0, 0⟩]]) := by kernel_rfl
  obtain ⟨fin, h1, h2⟩ := Option.map_eq_some_iff.1 h
  injection h2 with h3 h4
  exact ⟨fin, h1, h3, h4⟩

section
variable {Post : Value → World → Prop} {N : Nat} {u : World} {fr : Frame} {cs : List Frame}
set_option maxHeartbeats 2000000 in
theorem awake15 (hN : 0 < N) (hn : ∀ u', Grown u u' → Wn (ctxQ Post (N + 2)) (fr.finish (.bool true)) cs u') : Wn (ctxQ Post N) (Frame.enter Try.prog 15 #[] .normal) (fr :: cs) u := by
  refine Wn.toP (S := S0) (l := list0) ?_
  have hfz : (ctxP Post N S0 list0).fz = true := rfl
  have hn : Hid _ := hn
  refine Wn.body Try.func15 rfl ?_
  simp only [Try.ntmps15, List.size_toArray, List.length_cons, List.length_nil, Nat.reduceAdd, Nat.reduceSub, Array.replicate_succ, Array.replicate_zero, List.push_toArray, List.append_toArray, List.nil_append, List.cons_append]
  refine Wn.seq (Wn.reg (by simp [base]) (by rw [hfz]; kernel_rfl) ?_)
  go_wp2_with fail
  refine ⟨rfl, ?_⟩
  refine Wn.seq (Wn.open ?_)
  refine Wn.callC 0 2 1 rfl (by simp [base]) rfl rfl rfl (by kernel_rfl) ?_
  refine new16 (A := none) (n := 0) (cp := 0) (xs := []) hfz rfl ⟨rfl, by decide, fun h => absurd h (by decide)⟩ (by decide) ?_
  intro W back sv u1 hg1 hWN hbkN hsvN hf1
  rw [Frame.finish_at]
  have HF : Hid _ := hf1
  have HG : Hid _ := hg1
  have HW : Hid _ := hWN
  have HB : Hid _ := hbkN
  clear hf1 hg1 hWN hsvN hbkN
  refine Wn.span1 1 1 1 (by simp [base]) (by decide) (by decide) (by rw [hfz]; kernel_rfl) ?_
  simp only [List.take, List.drop]
  go_wp2_with fail
  refine ⟨rfl, ?_⟩
  refine Wn.range_end (n := 0) ?_
  refine Wn.seq (Wn.open ?_)
  refine Wn.span1 0 6 12 (by simp [base]) (by decide) (by decide) (by rw [hfz]; kernel_rfl) ?_
  simp only [List.take, List.drop]
  go_wp2_with fail
  refine ⟨rfl, ?_⟩
  have hg3 : Grown u1 (((u1.alloc (.cells #[num 1, num 0, num 0, num 0] 36)).alloc (.cells #[num 2, num 0, num 0, num 0] 36)).alloc (.cells #[.slice (some ⟨u1.heap.size, 0, none⟩) 1 1, .slice (some ⟨u1.heap.size + 1, 0, none⟩) 1 1] 32)) := (Grown.two _ _ _).trans (Grown.alloc _ _)
  have hs2 : ((u1.alloc (.cells #[num 1, num 0, num 0, num 0] 36)).alloc (.cells #[num 2, num 0, num 0, num 0] 36)).heap.size = u1.heap.size + 2 := by rw [size_alloc, size_alloc]
  have hb0 : (((u1.alloc (.cells #[num 1, num 0, num 0, num 0] 36)).alloc (.cells #[num 2, num 0, num 0, num 0] 36)).alloc (.cells #[.slice (some ⟨u1.heap.size, 0, none⟩) 1 1, .slice (some ⟨u1.heap.size + 1, 0, none⟩) 1 1] 32)).heap[u1.heap.size]? = some (.cells #[num 1, num 0, num 0, num 0] 36 (0, 0)) := (heap_alloc (by rw [hs2]; omega)).trans (heap_alloc2_old ..)
  have hb1 : (((u1.alloc (.cells #[num 1, num 0, num 0, num 0] 36)).alloc (.cells #[num 2, num 0, num 0, num 0] 36)).alloc (.cells #[.slice (some ⟨u1.heap.size, 0, none⟩) 1 1, .slice (some ⟨u1.heap.size + 1, 0, none⟩) 1 1] 32)).heap[u1.heap.size + 1]? = some (.cells #[num 2, num 0, num 0, num 0] 36 (0, 0)) := (heap_alloc (by rw [hs2]; omega)).trans (heap_alloc2_new ..)
  have hb2 : (((u1.alloc (.cells #[num 1, num 0, num 0, num 0] 36)).alloc (.cells #[num 2, num 0, num 0, num 0] 36)).alloc (.cells #[.slice (some ⟨u1.heap.size, 0, none⟩) 1 1, .slice (some ⟨u1.heap.size + 1, 0, none⟩) 1 1] 32)).heap[u1.heap.size + 1 + 1]? = some (.cells #[.slice (some ⟨u1.heap.size, 0, none⟩) 1 1, .slice (some ⟨u1.heap.size + 1, 0, none⟩) 1 1] 32 (0, 0)) := by rw [show u1.heap.size + 1 + 1 = _ from hs2.symm]; exact heap_alloc_new _ _
  generalize ((u1.alloc (.cells #[num 1, num 0, num 0, num 0] 36)).alloc (.cells #[num 2, num 0, num 0, num 0] 36)).alloc (.cells #[.slice (some ⟨u1.heap.size, 0, none⟩) 1 1, .slice (some ⟨u1.heap.size + 1, 0, none⟩) 1 1] 32) = u3 at hg3 hb0 hb1 hb2 ⊢
  clear hs2
  obtain ⟨fin, hrun, htl, hout⟩ := awake_fin
  have hWlt : W < u1.heap.size := blk_lt HF.out.w
  have hsc : ScrW W u3 (some ⟨u1.heap.size + 1 + 1, 0, none⟩) [[(⟨1, 0, 0, 0⟩ : Cal)], [⟨2, 0, 0, 0⟩]] := by
    intro i l hl
    match i, hl with
    | 0, hl =>
      obtain rfl := Option.some.inj hl
      refine ⟨_, some ⟨u1.heap.size, 0, none⟩, 1, rfl, by show u1.heap.size + 1 + 1 ≠ W; omega, fun aa e _ => by cases e; show u1.heap.size ≠ W; omega, ?_, fun k c hc => ?_⟩
      · exact (blk_cell hb2 0).trans rfl
      · match k, hc with
        | 0, hc =>
          obtain rfl := Option.some.inj hc
          exact ⟨_, rfl, (blk_cell hb0 0).trans rfl, (blk_cell hb0 1).trans rfl, (blk_cell hb0 2).trans rfl, (blk_cell hb0 3).trans rfl⟩
    | 1, hl =>
      obtain rfl := Option.some.inj hl
      refine ⟨_, some ⟨u1.heap.size + 1, 0, none⟩, 1, rfl, by show u1.heap.size + 1 + 1 ≠ W; omega, fun aa e _ => by cases e; show u1.heap.size + 1 ≠ W; omega, ?_, fun k c hc => ?_⟩
      · exact (blk_cell hb2 1).trans rfl
      · match k, hc with
        | 0, hc =>
          obtain rfl := Option.some.inj hc
          exact ⟨_, rfl, (blk_cell hb1 0).trans rfl, (blk_cell hb1 1).trans rfl, (blk_cell hb1 2).trans rfl, (blk_cell hb1 3).trans rfl⟩
  clear hb0 hb1 hb2
  refine Wn.callC 6 6 5 rfl (by simp [base]) rfl rfl rfl (by kernel_rfl) ?_
  refine latchPlay17 (K := 20) (f := 10) (scripts := [[(⟨1, 0, 0, 0⟩ : Cal)], [⟨2, 0, 0, 0⟩]]) (fin := fin) hN (HF.out.grown hg3) hsc (by decide) (by simp [CalIn, In64]) (by unfold In64; omega) (fun _ _ => ⟨hrun, by rw [htl]; unfold roomB; omega⟩) (fun h => absurd rfl h) (fun _ h => by omega) ?_
  intro _ _ v u4 hpl
  refine Wn.toQ ?_
  show Wn (ctxQ Post (N + 2)) _ _ _
  have hfzq : (ctxQ Post (N + 2)).fz = false := rfl
  obtain ⟨ou, ev, _⟩ := hpl.rows (by rw [hout]; decide) (Grown.refl _)
  have hfl : fin.2.length = 2 := by have := congrArg List.length hout; simpa using this
  rw [hfl] at ev
  have HPL : Hid _ := hpl
  have HOUT : Hid _ := hout
  clear hpl hrun hout hfl
  subst ev
  rw [Frame.finish_at]
  refine Wn.span1 7 5 5 (by simp [base]) (by decide) (by decide) (by rw [hfzq]; kernel_rfl) ?_
  simp only [List.take, List.drop]
  go_wp2_with fail
  refine ⟨rfl, ?_⟩
  refine Wn.range_end (n := 0) ?_
  refine Wn.seq (Wn.open ?_)
  refine Wn.span1 0 6 8 (by simp [base]) (by decide) (by decide) (by rw [hfzq]; kernel_rfl) ?_
  simp only [List.take, List.drop]
  go_wp2_with fail
  refine ⟨rfl, ?_⟩
  have hg5 : Grown u4 (((u4.alloc (.cells #[num 0, num 0] 34)).alloc (.cells #[num 0, num 0] 34)).alloc (.cells #[.slice (some ⟨u4.heap.size, 0, none⟩) 1 1, .slice (some ⟨u4.heap.size + 1, 0, none⟩) 1 1] 31)) := (Grown.two _ _ _).trans (Grown.alloc _ _)
  have hs2 : ((u4.alloc (.cells #[num 0, num 0] 34)).alloc (.cells #[num 0, num 0] 34)).heap.size = u4.heap.size + 2 := by rw [size_alloc, size_alloc]
  have hb0 : (((u4.alloc (.cells #[num 0, num 0] 34)).alloc (.cells #[num 0, num 0] 34)).alloc (.cells #[.slice (some ⟨u4.heap.size, 0, none⟩) 1 1, .slice (some ⟨u4.heap.size + 1, 0, none⟩) 1 1] 31)).heap[u4.heap.size]? = some (.cells #[num 0, num 0] 34 (0, 0)) := (heap_alloc (by rw [hs2]; omega)).trans (heap_alloc2_old ..)
  have hb1 : (((u4.alloc (.cells #[num 0, num 0] 34)).alloc (.cells #[num 0, num 0] 34)).alloc (.cells #[.slice (some ⟨u4.heap.size, 0, none⟩) 1 1, .slice (some ⟨u4.heap.size + 1, 0, none⟩) 1 1] 31)).heap[u4.heap.size + 1]? = some (.cells #[num 0, num 0] 34 (0, 0)) := (heap_alloc (by rw [hs2]; omega)).trans (heap_alloc2_new ..)
  have hb2 : (((u4.alloc (.cells #[num 0, num 0] 34)).alloc (.cells #[num 0, num 0] 34)).alloc (.cells #[.slice (some ⟨u4.heap.size, 0, none⟩) 1 1, .slice (some ⟨u4.heap.size + 1, 0, none⟩) 1 1] 31)).heap[u4.heap.size + 1 + 1]? = some (.cells #[.slice (some ⟨u4.heap.size, 0, none⟩) 1 1, .slice (some ⟨u4.heap.size + 1, 0, none⟩) 1 1] 31 (0, 0)) := by rw [show u4.heap.size + 1 + 1 = _ from hs2.symm]; exact heap_alloc_new _ _
  generalize ((u4.alloc (.cells #[num 0, num 0] 34)).alloc (.cells #[num 0, num 0] 34)).alloc (.cells #[.slice (some ⟨u4.heap.size, 0, none⟩) 1 1, .slice (some ⟨u4.heap.size + 1, 0, none⟩) 1 1] 31) = u5 at hg5 hb0 hb1 hb2 ⊢
  clear hs2
  have hpl := HPL.out
  have hrows : AnsRows u5 (some ⟨ou, 0, none⟩) [[⟨0, 0⟩], [⟨0, 0⟩]] := by
    obtain ⟨ou', e, hr⟩ := hpl.rows (by rw [HOUT.out]; decide) hg5
    injection e with e1 e2 e3
    rw [e1, ← HOUT.out]
    exact hr
  have hrows2 : AnsRows u5 (some ⟨u4.heap.size + 1 + 1, 0, none⟩) [[⟨0, 0⟩], [⟨0, 0⟩]] := by
    refine ans_built hb2 fun i x hx => ?_
    match i, hx with
    | 0, hx =>
      obtain rfl := Option.some.inj hx
      refine ⟨_, rfl, by decide, _, _, hb0, fun k a hk => ?_⟩
      match k, hk with
      | 0, hk =>
        obtain rfl := Option.some.inj hk
        exact ⟨rfl, rfl⟩
    | 1, hx =>
      obtain rfl := Option.some.inj hx
      refine ⟨_, rfl, by decide, _, _, hb1, fun k a hk => ?_⟩
      match k, hk with
      | 0, hk =>
        obtain rfl := Option.some.inj hk
        exact ⟨rfl, rfl⟩
  clear hb0 hb1 hb2
  have HR1 : Hid _ := hrows
  have HR2 : Hid _ := hrows2
  clear hrows hrows2 hpl
  refine Wn.callC 6 2 1 rfl (by simp [base]) rfl rfl rfl (by kernel_rfl) ?_
  refine same48 (xs := [[(⟨0, 0⟩ : Ans)], [⟨0, 0⟩]]) (A := some ⟨ou, 0, none⟩) (B := some ⟨u4.heap.size + 1 + 1, 0, none⟩) (ca := 2) (cb := 2) hfzq (by decide) HR1.out HR2.out ?_
  rw [Frame.finish_at]
  refine Wn.span1 7 1 1 (by simp [base]) (by decide) (by decide) (by rw [hfzq]; kernel_rfl) ?_
  simp only [List.take, List.drop]
  go_wp2_with fail
  refine ⟨rfl, ?_⟩
  refine Wn.range_end (n := 0) ?_
  obtain ⟨sv', cv, vth, vtr, hw1, hw2⟩ := HPL.out.w
  have hw5 := (hg5.blk _ (blk_lt hw1)).trans hw1
  have hr5 : Row k40 40 u5 vtr fin.1.trace := Row.move flat_k40 hw2 fun k hk => hg5.blk k (Kd.R_lt hw2 k hk)
  have h5 : u5.cell? ⟨W, 5, none⟩ = some vtr := (blk_cell hw5 5).trans rfl
  have HW5 : Hid _ := h5
  have HR5 : Hid _ := hr5
  have HTL : Hid _ := htl
  have HG5 : Hid _ := hg5
  clear hw1 hw2 hw5 hr5 h5 htl hg5 HR1 HR2
  refine Wn.seq (Wn.open ?_)
  refine Wn.span1 0 1 3 (by simp [base]) (by decide) (by decide) (by rw [hfzq]; kernel_rfl) ?_
  simp only [List.take, List.drop]
  go_wp2_with fail
  refine ⟨rfl, ?_⟩
  refine Wn.callC 1 2 1 rfl (by simp [base]) rfl rfl rfl (by kernel_rfl) ?_
  refine trace18 hfzq HW5.out HR5.out (by rw [HTL.out]; unfold roomB; omega) ?_
  intro v u6 hR6 hg6
  obtain ⟨A6, c6, e6⟩ := Kd.R_slice hR6
  rw [HTL.out] at e6
  subst e6
  rw [Frame.finish_at]
  have HG6 : Hid _ := hg6
  clear hR6 hg6
  refine Wn.span1 2 1 1 (by simp [base]) (by decide) (by decide) (by rw [hfzq]; kernel_rfl) ?_
  simp only [List.take, List.drop]
  go_wp2_with fail
  refine ⟨rfl, ?_⟩
  refine Wn.range_end (n := 0) ?_
  refine Wn.seq (Wn.reg (by simp [base]) (by rw [hfzq]; kernel_rfl) ?_)
  go_wp2_with fail
  refine ⟨rfl, ?_⟩
  refine Wn.ret ?_
  refine Wn.back rfl rfl Try.func15 (results_tmp rfl _ _ _) ?_
  refine hn.out u6 ?_
  have hpl := HPL.out
  have hg1 := HG.out
  have hWN := HW.out
  have hbN := HB.out
  have h36 := HG5.out.trans HG6.out
  obtain ⟨out', oc, _, h2, h3, _⟩ := hpl.v
  have h13 := hg1.trans hg3
  have hsz : u3.heap.size ≤ u4.heap.size := by have := blk_lt h3; omega
  refine ⟨fun b hb => ?_, Nat.le_trans h13.size (Nat.le_trans hsz h36.size), h36.os.trans (hpl.os.trans h13.os), h36.out.trans (hpl.outp.trans h13.out)⟩
  have hb3 : b < u3.heap.size := Nat.lt_of_lt_of_le hb h13.size
  have h4 := hpl.keep b _ (Array.getElem?_eq_getElem hb3) (by omega) (by omega)
  rw [h36.blk b (by omega), h4, ← h13.blk b hb, Array.getElem?_eq_getElem hb3]
end
end Go.Proofs.Ytoabkcalphpkhaa

/- Merged: Holds13. -/
import Derived.Test.YtoabkcalphpkhaaN23
import Derived.Test.YtoabkcalphpkhaaN28
import Derived.Test.YtoabkcalphpkhaaN32
import Derived.Deep.RegionHeld3
/- GateHolds: the law's walk. (Printed by gen_holds13.py.) -/
namespace Go.Proofs.Ytoabkcalphpkhaa
open Go Go.Conc Go.RowKit
open Go.Proofs.YtoabkcalphpkhaaW.PrintWords
set_option linter.unusedVariables false
set_option linter.unusedSimpArgs false
set_option linter.unusedSectionVars false
set_option maxRecDepth 100000

set_option maxHeartbeats 4000000 in
theorem holds13 {Post : Value → World → Prop} {u : World} {sA SA : Option Addr} {sc scp : Nat} {xs : List Int} {scripts : List (List Cal)} (hsch : kI.C u sA xs.length xs) (hsl : xs.length * 8 ≤ 140737488355328) (hS : ScrAt u SA scripts) (hmx : scripts.length ≤ 9223372036854775806) (hin : ∀ l ∈ scripts, ∀ c ∈ l, CalIn c)
    (hpost : ∀ w, Grown u w → Post (.bool true) w) : Wn (ctxQ Post 1) (Frame.enter Try.prog 13 #[.slice sA xs.length sc, .slice SA scripts.length scp] .normal) [] u := by
  have hfz : (ctxQ Post 1).fz = false := rfl
  have hpost : Hid (∀ w, Grown u w → Post (.bool true) w) := hpost
  have HS : Hid (ScrAt u SA scripts) := hS
  have HSCH : Hid (kI.C u sA xs.length xs) := hsch
  have HSL : Hid (xs.length * 8 ≤ 140737488355328) := hsl
  have HMX : Hid (scripts.length ≤ 9223372036854775806) := hmx
  clear hS hsch hsl hmx
  refine Wn.body Try.func13 rfl ?_
  simp only [Try.ntmps13, List.size_toArray, List.length_cons, List.length_nil, Nat.reduceAdd, Nat.reduceSub, Array.replicate_succ, Array.replicate_zero, List.push_toArray, List.append_toArray, List.nil_append, List.cons_append]
  refine Wn.seq (Wn.reg (by simp [base]) (by rw [hfz]; kernel_rfl) ?_)
  go_wp2_with fail
  refine ⟨rfl, ?_⟩
  refine Wn.seq (Wn.open ?_)
  refine Wn.callC 0 2 1 rfl (by simp [base]) rfl rfl rfl (by kernel_rfl) ?_
  refine awake45 (N := 1) (by decide) ?_
  intro u0 hg0
  rw [Frame.finish_at]
  show Wn (ctxQ Post 2) _ _ _
  have hfz : (ctxQ Post 2).fz = false := rfl
  refine Wn.span1 1 1 1 (by simp [base]) (by decide) (by decide) (by rw [hfz]; kernel_rfl) ?_
  simp only [List.take, List.drop]
  go_wp2_with fail
  refine ⟨rfl, ?_⟩
  refine Wn.range_end (n := 0) ?_
  refine Wn.seq (Wn.open ?_)
  refine Wn.span1 0 1 3 (by simp [base]) (by decide) (by decide) (by rw [hfz]; kernel_rfl) ?_
  simp only [List.take, List.drop]
  go_wp2_with fail
  refine ⟨rfl, ?_⟩
  refine Wn.callC 1 2 1 rfl (by simp [base]) rfl rfl rfl (by kernel_rfl) ?_
  refine Wn.toP (S := S0) (l := list0) ?_
  have hC0 : kI.C u0 sA xs.length xs := C_move HSCH.out hg0.blk
  refine new16 rfl rfl hC0 HSL.out ?_
  intro W back sv u1 hg1 hWN hbkN hsvN hf1
  refine Wn.toQ ?_
  have HF : Hid (Fresh0 W back sv (.slice none 0 0) xs 0 [] [] u1) := hf1
  have HG : Hid (Grown u u1) := hg0.trans hg1
  have HWN : Hid (u0.heap.size ≤ W) := hWN
  have HBN : Hid (u.heap.size ≤ back) := Nat.le_trans hg0.size hbkN
  have HWN0 : Hid (u.heap.size ≤ W) := Nat.le_trans hg0.size hWN
  have HSW : Hid (ScrW W u1 SA scripts) := (HS.out.move hg0.blk).scrW hg1 hWN
  clear hf1 hg1 hWN hbkN hsvN hg0 hC0
  rw [Frame.finish_at]
  refine Wn.span1 2 1 1 (by simp [base]) (by decide) (by decide) (by rw [hfz]; kernel_rfl) ?_
  simp only [List.take, List.drop]
  go_wp2_with fail
  refine ⟨rfl, ?_⟩
  refine Wn.range_end (n := 0) ?_
  refine Wn.seq (Wn.open ?_)
  refine Wn.span1 0 2 8 (by simp [base]) (by decide) (by decide) (by rw [hfz]; kernel_rfl) ?_
  simp only [List.take, List.drop]
  go_wp2_with fail
  refine ⟨rfl, ?_⟩
  refine Wn.callC 2 6 5 rfl (by simp [base]) rfl rfl rfl (by kernel_rfl) ?_
  refine Wn.toP (S := S0) (l := list0) ?_
  obtain ⟨fin, hfin⟩ : ∃ fin : Sys × List Park, Hid (mayOf scripts false = 0 → spawn xs 1500000 (scripts.map fun l => oneP (doGate 600) 0 l []) ⟨0, -1, [0], [0], [], false⟩ [] = some fin ∧ GateFin scripts fin) := by
    by_cases hm : mayOf scripts false = 0
    · obtain ⟨hlen, h1, h8⟩ := mayOf_zero hm
      obtain ⟨fin, h1, h2⟩ := gate_fin h8 hlen xs (K := 1500000) (F := 600) rfl rfl
      exact ⟨fin, fun _ => ⟨h1, h2⟩⟩
    · exact ⟨(⟨0, -1, [], [], [], false⟩, []), fun h1 => absurd h1 hm⟩
  refine gatePlay46 (K := 1500000) (f := 600) (scripts := scripts) (fin := fin) (by decide) HF.out HSW.out HMX.out hin (fun h1 => ⟨(hfin.out h1).1, by have := (hfin.out h1).2.room; unfold roomB; omega⟩) (fun hm => ?_) ?_
  · refine Wn.toQ ?_
    obtain he | he : mayOf scripts false = 1 ∨ mayOf scripts false = 2 := by
      unfold mayOf at hm ⊢
      split
      · exact .inr rfl
      · split
        · exact .inl rfl
        · rename_i h1 h2
          rw [if_neg h1, if_neg h2] at hm
          exact absurd rfl hm
    · rw [he]
      rw [Frame.finish_at]
      refine Wn.span1 3 5 5 (by simp [base]) (by decide) (by decide) (by rw [hfz]; kernel_rfl) ?_
      simp only [List.take, List.drop]
      go_wp2_with fail
      refine ⟨rfl, ?_⟩
      refine Wn.range_end (n := 0) ?_
      refine Wn.code listGq rfl rfl (by kernel_rfl) (K := restAt 4 u) (fun a w τ d h => ⟨h.1.on τ d, h.2⟩) (fun τ d => ?_) (fun a' u' todo hd h => ?_)
      · have HG : Hid (Grown u (u1.on τ d)) := HG.out.on τ d
        generalize u1.on τ d = w at HG
        go_wp2_with fail
        exact ⟨rfl, HG.out, rfl⟩
      · exact Wn.finish (v := .bool true) (by decide) rfl hd Try.func13 (fun w => by rw [← h.2]; exact runT_results1 (fn := Try.f13) (t := 4) rfl _ w) rfl (fun _ => rfl) fun w hl => hpost.out w (grown_of_like h.1 hl)
    · rw [he]
      rw [Frame.finish_at]
      refine Wn.span1 3 5 5 (by simp [base]) (by decide) (by decide) (by rw [hfz]; kernel_rfl) ?_
      simp only [List.take, List.drop]
      go_wp2_with fail
      refine ⟨rfl, ?_⟩
      refine Wn.range_end (n := 0) ?_
      refine Wn.code listGq rfl rfl (by kernel_rfl) (K := restAt 4 u) (fun a w τ d h => ⟨h.1.on τ d, h.2⟩) (fun τ d => ?_) (fun a' u' todo hd h => ?_)
      · have HG : Hid (Grown u (u1.on τ d)) := HG.out.on τ d
        generalize u1.on τ d = w at HG
        go_wp2_with fail
        exact ⟨rfl, HG.out, rfl⟩
      · exact Wn.finish (v := .bool true) (by decide) rfl hd Try.func13 (fun w => by rw [← h.2]; exact runT_results1 (fn := Try.f13) (t := 4) rfl _ w) rfl (fun _ => rfl) fun w hl => hpost.out w (grown_of_like h.1 hl)
  intro hm v u4 hpl
  refine Wn.toQ ?_
  show Wn (ctxQ Post (2 + scripts.length)) _ _ _
  have hfzq : (ctxQ Post (2 + scripts.length)).fz = false := rfl
  obtain ⟨hrun, hfn⟩ := hfin.out hm
  have HG4 : Hid (Grown u u4) := hpl.grown HG.out HWN0.out HBN.out
  have HS4 : Hid (ScrAt u4 SA scripts) := HS.out.move HG4.out.blk
  obtain ⟨hlen, h1, h8⟩ := mayOf_zero hm
  obtain ⟨ou, ev, hrows⟩ := hpl.rows (fun l hl => by
    obtain ⟨pk, hpk, rfl⟩ := List.mem_map.1 hl
    obtain ⟨j, hj⟩ := List.mem_iff_getElem?.1 hpk
    have hjl := (List.getElem?_eq_some_iff.1 hj).1
    rw [hfn.len] at hjl
    have hs : scripts[j]? = some scripts[j] := List.getElem?_eq_getElem hjl
    rw [hfn.lens j _ pk hs hj]
    have := hlen _ (List.getElem_mem hjl)
    omega) (Grown.refl u4)
  rw [hfn.len] at ev
  subst ev
  have HR : Hid (AnsRows u4 (some ⟨ou, 0, none⟩) (fin.2.map outOf)) := hrows
  obtain ⟨sv', cv, vth, vtr, hw1, hw2⟩ := hpl.w
  have HW5 : Hid (u4.cell? ⟨W, 5, none⟩ = some vtr) := (blk_cell hw1 5).trans rfl
  have HTR : Hid (Row k40 40 u4 vtr fin.1.trace) := hw2
  have HM : Hid (scripts.length ≤ 8) := h8
  have HL : Hid (∀ l ∈ scripts, l.length ≤ 64) := hlen
  have HFN : Hid (GateFin scripts fin) := hfn
  clear hfin hrun hfn hrows hw1 hw2 hpl hlen h1 h8 hm HF HSW HSCH HSL HWN HWN0 HBN HG HS
  generalize (⟨ou, 0, none⟩ : Addr) = oa at HR ⊢
  rw [Frame.finish_at]
  refine Wn.span1 3 5 5 (by simp [base]) (by decide) (by decide) (by rw [hfzq]; kernel_rfl) ?_
  simp only [List.take, List.drop]
  go_wp2_with fail
  refine ⟨rfl, ?_⟩
  refine Wn.range_end (n := 0) ?_
  refine Wn.code listGq rfl rfl (by kernel_rfl) (K := restAt 4 u) (fun a w τ d h => ⟨h.1.on τ d, h.2⟩) (fun τ d => ?_) (fun a' u' todo hd h => ?_)
  rotate_left
  · exact Wn.finish (v := .bool true) (by decide) rfl hd Try.func13 (fun w => by rw [← h.2]; exact runT_results1 (fn := Try.f13) (t := 4) rfl _ w) rfl (fun _ => rfl) fun w hl => hpost.out w (grown_of_like h.1 hl)
  have HG : Hid (Grown u4 (u4.on τ d)) := (Grown.refl u4).on τ d
  generalize u4.on τ d = w at HG
  have hmx := HMX.out
  go_wp2_with fail
  refine (trace_calls (HG.out.cell HW5.out) (Row.move flat_k40 HTR.out fun k hk => HG.out.blk k (Kd.R_lt HTR.out k hk)) (by have := HFN.out.room; unfold roomB; omega)).mono ?_
  rintro e w2 ⟨tv, rfl, hR, hg2⟩
  obtain ⟨A5, c5, rfl, hSt⟩ := steps_of_row hR
  have HG2 : Hid (Grown u4 w2) := HG.out.trans hg2
  have HST : Hid (StepsAt w2 A5 fin.1.trace) := hSt
  clear hSt hR hg2 HG HTR HW5
  have hrm : fin.1.trace.length ≤ 1300000 := HFN.out.room
  obtain ⟨tr, etr⟩ : ∃ tr, Hid (tr = fin.1.trace) := ⟨_, rfl⟩
  rw [← etr.out] at HST hrm ⊢
  have HTL : Hid (TrG scripts tr) := by rw [etr.out]; exact HFN.out.tr
  go_wp2_with fail
  go_loopg [10, 11, 12] (tr.length + 1) (fun kq v10 v11 v12 w' => ∃ (j : Nat) (x10 x11 : Int), v12 = num j ∧ v10 = num x10 ∧ v11 = num x11 ∧ Aside0 ((x10, x11) = gOf (tr.take j) ∧ j ≤ tr.length ∧ kq = tr.length + 1 - j) ∧ Aside0 (Grown w2 w'))
  case atStart => exact ⟨0, 0, 0, rfl, rfl, rfl, ⟨rfl, by omega, by omega⟩, ⟨Grown.refl _⟩⟩
  case round =>
    obtain ⟨j, x10, x11, rfl, rfl, rfl, hj, HG⟩ := hrel
    by_cases hje : j < tr.length
    · have hjx : tr[j]? = some tr[j] := List.getElem?_eq_getElem hje
      obtain ⟨ad, rfl, q0, q1, q2, q3, q4⟩ := HST.out.move HG.out j _ hjx
      have htk : Hid (tr.take (j + 1) = tr.take j ++ [tr[j]]) := by
        show _ = _
        rw [List.take_add_one, hjx]; rfl
      have HSG : Hid (StG scripts (x10, x11) (gStep (x10, x11) tr[j]) tr[j]) := by
        have := HTL.out j _ hjx
        rw [htk.out, gOf_snoc, ← hj.out.1] at this
        exact this
      have HNX : Hid (gOf (tr.take (j + 1)) = gStep (x10, x11) tr[j]) := by
        show _ = _
        rw [htk.out, gOf_snoc, ← hj.out.1]
      have hbd : x10 ≤ 1300000 ∧ -1300000 ≤ x10 ∧ 0 ≤ x11 ∧ x11 ≤ 1300000 := by
        have h1 := gOf_le (tr.take j)
        rw [← hj.out.1, List.length_take] at h1
        dsimp only at h1
        omega
      have HBD : Hid (x10 ≤ 1300000 ∧ -1300000 ≤ x10 ∧ 0 ≤ x11 ∧ x11 ≤ 1300000) := hbd
      generalize tr[j] = x at q0 q1 q2 q3 q4 htk HSG HNX
      obtain ⟨xt, xc, xo, xa, xb⟩ := x
      dsimp only at q0 q1 q2 q3 q4
      have e1 : decide ((j : Int) < (tr.length : Int)) = true := decide_eq_true (by omega)
      have e2 : decide ((0 : Int) ≤ (j : Int)) = true := decide_eq_true (by omega)
      have e3 : (j : Int) < (tr.length : Int) := by omega
      have e4 : (0 : Int) ≤ (j : Int) := by omega
      clear hbd htk hjx
      by_cases o4 : xo = 4
      · subst o4
        by_cases on : xa = xb
        · subst on
          have hd : isChg ⟨xt, xc, 4, xa, xa⟩ = false := isChg_same ..
          go_wp2_with fail
          go_roundg (tr.length - j)
          case measure => have := hj.out; omega
          case rel => exact ⟨j + 1, x10, x11, rfl, (by first | rfl | rw [c2]), (by first | rfl | rw [c2]), ⟨by rw [HNX.out]; unfold gStep; rw [hd]; rfl, by omega, by omega⟩, ⟨HG.out.trans (Grown.alloc _ _)⟩⟩
        · have hd : isChg ⟨xt, xc, 4, xa, xb⟩ = true := by unfold isChg; simp [on]
          have gona : (xa == xb) = false := beq_eq_false_iff_ne.mpr on
          have gonb : decide (xa = xb) = false := decide_eq_false on
          have gonc : (xa != xb) = true := bne_iff_ne.mpr on
          obtain ⟨hs1, hs2, hs3, hs4, hs5⟩ := HSG.out.chg hd
          have hb := HBD.out
          dsimp only at hs1 hs2
          rcases hs1 with ⟨hs1, hs0⟩ | hs1 | hs1
          · have hst : gStep (x10, x11) ⟨xt, xc, 4, xa, xb⟩ = (x10 + 1, x11) := by unfold gStep; rw [if_pos hd]; dsimp only; rw [if_pos hs1]
            rw [hst] at hs3 hs4 hs5
            dsimp only at hs3 hs4 hs5
            subst hs0
            obtain ⟨y, hy⟩ : ∃ y, y = x10 + 1 := ⟨_, rfl⟩
            obtain ⟨z, hz⟩ : ∃ z, z = 2 * y := ⟨_, rfl⟩
            have c1 : wrap64 (xb - xa) = 2 := by rw [hs1]; unfold wrap64; omega
            have c2 : wrap64 (x10 + 1) = y := by rw [hy]; exact wrap64_id (by omega) (by omega)
            have c4 : wrap64 (2 * y) = z := by rw [hz]; exact wrap64_id (by omega) (by omega)
            have c5 : wrap64 (z + 0) = xb := by rw [wrap64_id (by omega) (by omega)]; omega
            have c5' : wrap64 z = xb := by rw [wrap64_id (by omega) (by omega)]; omega
            have c7 : decide (y < 0) = false := decide_eq_false (by omega)
            have HY : Hid (y = x10 + 1) := hy
            have HST2 : Hid _ := hst
            clear hs1 hs2 hs3 hs4 hs5 hb hy hz hst on
            go_wp2_with fail
            go_roundg (tr.length - j)
            case measure => have := hj.out; omega
            case rel => exact ⟨j + 1, y, 0, rfl, (by first | rfl | rw [c2]), (by first | rfl | rw [c2]), ⟨by rw [HNX.out]; rw [HST2.out, HY.out], by omega, by omega⟩, ⟨HG.out.trans (Grown.alloc _ _)⟩⟩
          · have hst : gStep (x10, x11) ⟨xt, xc, 4, xa, xb⟩ = (x10 - 1, x11) := by unfold gStep; rw [if_pos hd]; dsimp only; rw [if_neg (by omega), if_pos hs1]
            rw [hst] at hs3 hs4 hs5
            dsimp only at hs3 hs4 hs5
            obtain ⟨y, hy⟩ : ∃ y, y = x10 - 1 := ⟨_, rfl⟩
            obtain ⟨z, hz⟩ : ∃ z, z = 2 * y := ⟨_, rfl⟩
            have c1 : wrap64 (xb - xa) = -2 := by rw [hs1]; unfold wrap64; omega
            have c2 : wrap64 (x10 - 1) = y := by rw [hy]; exact wrap64_id (by omega) (by omega)
            have c4 : wrap64 (2 * y) = z := by rw [hz]; exact wrap64_id (by omega) (by omega)
            have c5 : wrap64 (z + x11) = xb := by rw [wrap64_id (by omega) (by omega)]; omega
            have c6 : decide (x11 > 1) = false := decide_eq_false (by omega)
            have c6' : decide (1 < x11) = false := decide_eq_false (by omega)
            have c7 : decide (y < 0) = false := decide_eq_false (by omega)
            have HY : Hid (y = x10 - 1) := hy
            have HST2 : Hid _ := hst
            clear hs1 hs2 hs3 hs4 hs5 hb hy hz hst on
            go_wp2_with fail
            go_roundg (tr.length - j)
            case measure => have := hj.out; omega
            case rel => exact ⟨j + 1, y, x11, rfl, (by first | rfl | rw [c2]), (by first | rfl | rw [c2]), ⟨by rw [HNX.out]; rw [HST2.out, HY.out], by omega, by omega⟩, ⟨HG.out.trans (Grown.alloc _ _)⟩⟩
          · have hst : gStep (x10, x11) ⟨xt, xc, 4, xa, xb⟩ = (x10, x11 + 1) := by unfold gStep; rw [if_pos hd]; dsimp only; rw [if_neg (by omega), if_neg (by omega)]
            rw [hst] at hs3 hs4 hs5
            dsimp only at hs3 hs4 hs5
            obtain ⟨y, hy⟩ : ∃ y, y = x11 + 1 := ⟨_, rfl⟩
            obtain ⟨z, hz⟩ : ∃ z, z = 2 * x10 := ⟨_, rfl⟩
            have c1 : wrap64 (xb - xa) = 1 := by rw [hs1]; unfold wrap64; omega
            have c2 : wrap64 (x11 + 1) = y := by rw [hy]; exact wrap64_id (by omega) (by omega)
            have c4 : wrap64 (2 * x10) = z := by rw [hz]; exact wrap64_id (by omega) (by omega)
            have c5 : wrap64 (z + y) = xb := by rw [wrap64_id (by omega) (by omega)]; omega
            have c6 : decide (y > 1) = false := decide_eq_false (by omega)
            have c6' : decide (1 < y) = false := decide_eq_false (by omega)
            have c7 : decide (x10 < 0) = false := decide_eq_false (by omega)
            have HY : Hid (y = x11 + 1) := hy
            have HST2 : Hid _ := hst
            clear hs1 hs2 hs3 hs4 hs5 hb hy hz hst on
            go_wp2_with fail
            go_roundg (tr.length - j)
            case measure => have := hj.out; omega
            case rel => exact ⟨j + 1, x10, y, rfl, (by first | rfl | rw [c2]), (by first | rfl | rw [c2]), ⟨by rw [HNX.out]; rw [HST2.out, HY.out], by omega, by omega⟩, ⟨HG.out.trans (Grown.alloc _ _)⟩⟩
      · have hd : isChg ⟨xt, xc, xo, xa, xb⟩ = false := isChg_op _ _ _ _ _ o4
        have hst : gStep (x10, x11) ⟨xt, xc, xo, xa, xb⟩ = (x10, x11) := by unfold gStep; rw [hd]; rfl
        by_cases o10 : xo = 10
        · subst o10
          obtain ⟨ti, tj, l, c, h1, h2, hl, hc, hE⟩ := HSG.out.fin rfl
          dsimp only at h1 h2 hE
          subst h1
          subst h2
          rw [hst] at hE
          have ht : ti < scripts.length := (List.getElem?_eq_some_iff.1 hl).1
          have hjl : tj < l.length := (List.getElem?_eq_some_iff.1 hc).1
          obtain ⟨bd, Bi, di, rfl, s0, sB⟩ := (HS4.out.move HG2.out.blk).move HG.out.blk ti _ hl
          obtain ⟨be, rfl, s1, _⟩ := sB tj _ hc
          have hl64 := HL.out l (List.mem_of_getElem? hl)
          obtain ⟨co, ca, cb', cc⟩ := c
          dsimp only at s1 hE
          have HE : Hid (co = 3 → xb = 0 → x10 ≤ 0 ∧ x11 = 1) := hE
          have m1 : decide ((ti : Int) < 0) = false := decide_eq_false (by omega)
          have m2 : decide ((ti : Int) ≥ (scripts.length : Int)) = false := decide_eq_false (by omega)
          have m2' : decide ((scripts.length : Int) ≤ (ti : Int)) = false := decide_eq_false (by omega)
          have m3 : decide ((tj : Int) < 0) = false := decide_eq_false (by omega)
          have m4 : decide ((tj : Int) ≥ (l.length : Int)) = false := decide_eq_false (by omega)
          have m4' : decide ((l.length : Int) ≤ (tj : Int)) = false := decide_eq_false (by omega)
          have m9 : (ti : Int) < (scripts.length : Int) := by omega
          have m10 : (tj : Int) < (l.length : Int) := by omega
          have m11 : (0 : Int) ≤ (ti : Int) := by omega
          have m12 : (0 : Int) ≤ (tj : Int) := by omega
          have m13 : l.length ≤ 9223372036854775806 := by omega
          have m14 : decide (scripts.length ≤ ti) = false := decide_eq_false (by omega)
          have m15 : decide (l.length ≤ tj) = false := decide_eq_false (by omega)
          have m16 : decide ((0 : Int) ≤ (ti : Int)) = true := decide_eq_true (by omega)
          have m17 : decide ((ti : Int) < (scripts.length : Int)) = true := decide_eq_true (by omega)
          have m18 : decide ((0 : Int) ≤ (tj : Int)) = true := decide_eq_true (by omega)
          have m19 : decide ((tj : Int) < (l.length : Int)) = true := decide_eq_true (by omega)
          clear hE hl hc
          go_wp2_with fail
          have hga := Grown.alloc wr (.cells #[num ti, num xc, num 10, num tj, num xb] 40)
          have hnew : (wr.alloc (.cells #[num ti, num xc, num 10, num tj, num xb] 40)).heap[wr.heap.size]? = some (.cells #[num ti, num xc, num 10, num tj, num xb] 40 (0, 0)) := heap_alloc_new _ _
          replace s0 := hga.cell s0
          replace s1 := hga.cell s1
          have c0 := (blk_cell hnew 0).trans (rfl : _ = some (num ti))
          have c3 := (blk_cell hnew 3).trans (rfl : _ = some (num tj))
          have c4 := (blk_cell hnew 4).trans (rfl : _ = some (num xb))
          have HG3 : Hid (Grown w2 (wr.alloc (.cells #[num ti, num xc, num 10, num tj, num xb] 40))) := HG.out.trans hga
          clear hga hnew q0 q1 q2 q3 q4
          generalize wr.alloc (.cells #[num ti, num xc, num 10, num tj, num xb] 40) = w3 at s0 s1 c0 c3 c4 HG3 ⊢
          generalize wr.heap.size = sb at c0 c3 c4 ⊢
          go_quiet (fail)
          have hdr := drew_grown w3 nq
          replace s0 := hdr.cell s0
          replace s1 := hdr.cell s1
          replace c0 := hdr.cell c0
          replace c3 := hdr.cell c3
          replace c4 := hdr.cell c4
          have HG4' : Hid (Grown w2 (w3.drewN nq)) := HG3.out.trans hdr
          clear hdr HG3
          generalize w3.drewN nq = w4 at s0 s1 c0 c3 c4 HG4' ⊢
          by_cases o3 : co = 3
          · subst o3
            by_cases b0 : xb = 0
            · subst b0
              obtain ⟨i1, i2⟩ := HE.out rfl rfl
              subst i2
              have k1 : decide (x10 > 0) = false := decide_eq_false (by omega)
              have k2 : decide (0 < x10) = false := decide_eq_false (by omega)
              clear HE
              go_wp2_with fail
              go_quiet (fail)
              go_wp2_with fail
              go_roundg (tr.length - j)
              case measure => have := hj.out; omega
              case rel => exact ⟨j + 1, x10, 1, rfl, (by first | rfl | rw [c2]), (by first | rfl | rw [c2]), ⟨by rw [HNX.out]; rw [hst], by omega, by omega⟩, ⟨HG4'.out.trans (drew_grown _ _)⟩⟩
            ·
              have gb0a : (xb == 0) = false := beq_eq_false_iff_ne.mpr b0
              have gb0b : decide (xb = 0) = false := decide_eq_false b0
              have gb0c : (xb != 0) = true := bne_iff_ne.mpr b0
              clear HE
              go_wp2_with fail
              go_quiet (fail)
              go_wp2_with fail
              go_roundg (tr.length - j)
              case measure => have := hj.out; omega
              case rel => exact ⟨j + 1, x10, x11, rfl, (by first | rfl | rw [c2]), (by first | rfl | rw [c2]), ⟨by rw [HNX.out]; rw [hst], by omega, by omega⟩, ⟨HG4'.out.trans (drew_grown _ _)⟩⟩
          ·
            have go3a : (co == 3) = false := beq_eq_false_iff_ne.mpr o3
            have go3b : decide (co = 3) = false := decide_eq_false o3
            have go3c : (co != 3) = true := bne_iff_ne.mpr o3
            clear HE
            go_wp2_with fail
            go_quiet (fail)
            go_wp2_with fail
            go_roundg (tr.length - j)
            case measure => have := hj.out; omega
            case rel => exact ⟨j + 1, x10, x11, rfl, (by first | rfl | rw [c2]), (by first | rfl | rw [c2]), ⟨by rw [HNX.out]; rw [hst], by omega, by omega⟩, ⟨HG4'.out.trans (drew_grown _ _)⟩⟩
        ·
          have go4a : (xo == 4) = false := beq_eq_false_iff_ne.mpr o4
          have go4b : decide (xo = 4) = false := decide_eq_false o4
          have go4c : (xo != 4) = true := bne_iff_ne.mpr o4
          have go10a : (xo == 10) = false := beq_eq_false_iff_ne.mpr o10
          have go10b : decide (xo = 10) = false := decide_eq_false o10
          have go10c : (xo != 10) = true := bne_iff_ne.mpr o10
          go_wp2_with fail
          go_roundg (tr.length - j)
          case measure => have := hj.out; omega
          case rel => exact ⟨j + 1, x10, x11, rfl, (by first | rfl | rw [c2]), (by first | rfl | rw [c2]), ⟨by rw [HNX.out]; rw [hst], by omega, by omega⟩, ⟨HG.out.trans (Grown.alloc _ _)⟩⟩
    · have hjl : j = tr.length := by have := hj.out; omega
      subst hjl
      have e1 : decide ((tr.length : Int) < (tr.length : Int)) = false := decide_eq_false (by omega)
      have hx : (x10, x11) = gOf tr := by rw [hj.out.1, List.take_length]
      have hx1 : x10 = (gOf fin.1.trace).1 := by rw [← etr.out, ← hx]
      have hx2 : x11 = (gOf fin.1.trace).2 := by rw [← etr.out, ← hx]
      have HX1 : Hid (x10 = (gOf fin.1.trace).1) := hx1
      have HX2 : Hid (x11 = (gOf fin.1.trace).2) := hx2
      clear hx hx1 hx2
      go_wp2_with fail
      refine (counted_calls (SA := SA) (A := some oa) (scp := scp) (ca := scripts.length) (scripts := scripts) (outs := fin.2.map outOf) (I := x10) (S := x11) HMX.out HM.out HL.out ((HS4.out.move HG2.out.blk).move HG.out.blk) (HR.out.move (HG2.out.trans HG.out)) (by rw [List.length_map]; exact HFN.out.len) (fun i l o hl ho => ?_) (by rw [HX1.out]; exact HFN.out.ins) (by rw [HX2.out]; exact HFN.out.fst) (by rw [HX2.out]; exact HFN.out.fst2)).mono ?_
      · rw [List.getElem?_map] at ho
        obtain ⟨pk, hpk, rfl⟩ := Option.map_eq_some_iff.1 ho
        exact HFN.out.lens i l pk hl hpk
      rintro e w5 ⟨rfl, hg5⟩
      have HGE : Hid (Grown u w5) := HG4.out.trans ((HG2.out.trans HG.out).trans hg5)
      clear hg5
      go_wp2_with fail
      exact ⟨rfl, HGE.out, rfl⟩
end Go.Proofs.Ytoabkcalphpkhaa

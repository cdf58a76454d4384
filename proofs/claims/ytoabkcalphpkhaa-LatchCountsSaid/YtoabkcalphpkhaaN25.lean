/- Merged: Counts3. -/
import Derived.Test.YtoabkcalphpkhaaN21
import Derived.Test.YtoabkcalphpkhaaN24
import Derived.Deep.RegionHeld3
/- LatchCounts: the law's walk. (Printed by gen_counts3.py.) -/
namespace Go.Proofs.Ytoabkcalphpkhaa
open Go Go.Conc Go.RowKit
open Go.Proofs.YtoabkcalphpkhaaW.PrintWords Go.Proofs.YtoabkcalphpkhaaW.PrintLast Go.Proofs.YtoabkcalphpkhaaW.PrintMore
set_option linter.unusedVariables false
set_option linter.unusedSimpArgs false
set_option linter.unusedSectionVars false
set_option maxRecDepth 100000

def isD (p : Cal × Ans) : Bool := decide (p.1.op = 1)
def isS (p : Cal × Ans) : Bool := decide (p.1.op = 2) && decide (p.2.code = 4)
def okW (p : Cal × Ans) : Bool := decide (p.1.op = 2) && decide (p.2.code = 0)
structure Cnts (P : List (Cal × Ans)) (a b c d : Nat) : Prop where
  a : a = P.countP isD
  b : b = P.countP okD
  c : c = P.countP isS
  d : d = P.countP okW
theorem Cnts.le {P : List (Cal × Ans)} {a b c d : Nat} (h : Cnts P a b c d) : a ≤ P.length ∧ b ≤ P.length ∧ c ≤ P.length ∧ d ≤ P.length := by
  rw [h.a, h.b, h.c, h.d]
  exact ⟨List.countP_le_length, List.countP_le_length, List.countP_le_length, List.countP_le_length⟩
theorem Cnts.snoc {P : List (Cal × Ans)} {a b c d a' b' c' d' : Nat} {x : Cal × Ans} (h : Cnts P a b c d) (ha : a' = a + if isD x then 1 else 0) (hb : b' = b + if okD x then 1 else 0) (hc : c' = c + if isS x then 1 else 0) (hd : d' = d + if okW x then 1 else 0) : Cnts (P ++ [x]) a' b' c' d' :=
  ⟨by rw [ha, h.a, List.countP_append]; simp [List.countP_cons], by rw [hb, h.b, List.countP_append]; simp [List.countP_cons], by rw [hc, h.c, List.countP_append]; simp [List.countP_cons], by rw [hd, h.d, List.countP_append]; simp [List.countP_cons]⟩
theorem step_take {α : Type} {P P' l l' : List α} {x : α} (h : P' = P ++ l) (hl : l' = l ++ [x]) : P' ++ [x] = P ++ l' := by rw [h, hl, List.append_assoc]
set_option maxHeartbeats 4000000 in
theorem counts3 {Post : Value → World → Prop} {u : World} {sA SA : Option Addr} {sc scp : Nat} {xs : List Int} {scripts : List (List Cal)} {n : Int} (hsch : kI.C u sA xs.length xs) (hsl : xs.length * 8 ≤ 140737488355328) (hS : ScrAt u SA scripts) (hmx : scripts.length ≤ 9223372036854775806) (hin : ∀ l ∈ scripts, ∀ c ∈ l, CalIn c) (hv : In64 n)
    (hpost : ∀ w, Grown u w → Post (.bool true) w) : Wn (ctxQ Post 1) (Frame.enter Try.prog 3 #[.slice sA xs.length sc, num n, .slice SA scripts.length scp] .normal) [] u := by
  have hfz : (ctxQ Post 1).fz = false := rfl
  have hpost : Hid _ := hpost
  have HV : Hid (In64 n) := hv
  have HS : Hid (ScrAt u SA scripts) := hS
  have HSCH : Hid (kI.C u sA xs.length xs) := hsch
  have HSL : Hid _ := hsl
  have HMX : Hid _ := hmx
  clear hv hS hsch hsl hmx
  refine Wn.body Try.func3 rfl ?_
  simp only [Try.ntmps3, List.size_toArray, List.length_cons, List.length_nil, Nat.reduceAdd, Nat.reduceSub, Array.replicate_succ, Array.replicate_zero, List.push_toArray, List.append_toArray, List.nil_append, List.cons_append]
  refine Wn.seq (Wn.reg (by simp [base]) (by rw [hfz]; kernel_rfl) ?_)
  go_wp2_with fail
  refine ⟨rfl, ?_⟩
  refine Wn.seq (Wn.open ?_)
  refine Wn.callC 0 2 1 rfl (by simp [base]) rfl rfl rfl (by kernel_rfl) ?_
  refine awake15 (N := 1) (by decide) ?_
  intro u0 hg0
  rw [Frame.finish_at]
  show Wn (ctxQ Post 3) _ _ _
  have hfz : (ctxQ Post 3).fz = false := rfl
  refine Wn.span1 1 1 1 (by simp [base]) (by decide) (by decide) (by rw [hfz]; kernel_rfl) ?_
  simp only [List.take, List.drop]
  go_wp2_with fail
  refine ⟨rfl, ?_⟩
  refine Wn.range_end (n := 0) ?_
  refine Wn.seq (Wn.open ?_)
  refine Wn.span1 0 1 3 (by simp [base]) (by decide) (by decide) (by rw [hfz]; kernel_rfl) ?_
  simp only [List.take, List.drop]
  go_wp2_with fail
  refine ⟨rfl, ?_⟩
  refine Wn.callC 1 2 1 rfl (by simp [base]) rfl rfl rfl (by kernel_rfl) ?_
  refine Wn.toP (S := S0) (l := list0) ?_
  have hC0 : kI.C u0 sA xs.length xs := C_move HSCH.out hg0.blk
  refine new16 rfl rfl hC0 HSL.out ?_
  intro W back sv u1 hg1 hWN hbkN hsvN hf1
  refine Wn.toQ ?_
  have HF : Hid (Fresh0 W back sv (.slice none 0 0) xs 0 [] [] u1) := hf1
  have HG : Hid (Grown u u1) := hg0.trans hg1
  have HS1 : Hid (ScrAt u1 SA scripts) := (HS.out.move hg0.blk).move hg1.blk
  have HWN : Hid _ := hWN
  have HBN : Hid (u.heap.size ≤ back) := Nat.le_trans hg0.size hbkN
  have HWN0 : Hid (u.heap.size ≤ W) := Nat.le_trans hg0.size hWN
  have HSW : Hid (ScrW W u1 SA scripts) := (HS.out.move hg0.blk).scrW hg1 hWN
  clear hf1 hg1 hWN hbkN hsvN hg0 hC0
  rw [Frame.finish_at]
  refine Wn.span1 2 1 1 (by simp [base]) (by decide) (by decide) (by rw [hfz]; kernel_rfl) ?_
  simp only [List.take, List.drop]
  go_wp2_with fail
  refine ⟨rfl, ?_⟩
  refine Wn.range_end (n := 0) ?_
  refine Wn.seq (Wn.open ?_)
  refine Wn.span1 0 3 9 (by simp [base]) (by decide) (by decide) (by rw [hfz]; kernel_rfl) ?_
  simp only [List.take, List.drop]
  go_wp2_with fail
  refine ⟨rfl, ?_⟩
  refine Wn.callC 3 6 5 rfl (by simp [base]) rfl rfl rfl (by kernel_rfl) ?_
  refine Wn.toP (S := S0) (l := list0) ?_
  obtain ⟨fin, hfin⟩ : ∃ fin : Sys × List Park, Hid (mayOf scripts false = 0 → 0 ≤ n → spawn xs 700000 (scripts.map fun l => oneP (doLatch 600) 0 l []) ⟨0, -1, [n], [0], [], false⟩ [] = some fin ∧ LatchFin n.toNat scripts fin) := by
    by_cases hm : mayOf scripts false = 0 ∧ 0 ≤ n
    · obtain ⟨hlen, h1, h8⟩ := mayOf_zero hm.1
      have hn0 : ((n.toNat : Nat) : Int) = n := Int.toNat_of_nonneg hm.2
      obtain ⟨fin, h1, h2⟩ := latch_fin (n := n.toNat) (by rw [hn0]; exact HV.out) h8 hlen xs (K := 700000) (F := 600) rfl rfl
      rw [hn0] at h1
      exact ⟨fin, fun _ _ => ⟨h1, h2⟩⟩
    · exact ⟨(⟨0, -1, [], [], [], false⟩, []), fun h1 h2 => absurd ⟨h1, h2⟩ hm⟩
  refine latchPlay17 (K := 700000) (f := 600) (scripts := scripts) (fin := fin) (by decide) HF.out HSW.out HMX.out hin HV.out (fun h1 h2 => ⟨(hfin.out h1 h2).1, by have := (hfin.out h1 h2).2.room; unfold roomB; omega⟩) (fun hm => ?_) (fun hm hneg => ?_) ?_
  · refine Wn.toQ ?_
    obtain he | he : mayOf scripts false = 1 ∨ mayOf scripts false = 2 := by
      unfold mayOf at hm ⊢
      split
      · exact .inr rfl
      · split
        · exact .inl rfl
        · rename_i h1 h2
          rw [if_neg h1, if_neg h2] at hm
          exact absurd rfl hm
    · rw [he]
      rw [Frame.finish_at]
      refine Wn.span1 4 5 5 (by simp [base]) (by decide) (by decide) (by rw [hfz]; kernel_rfl) ?_
      simp only [List.take, List.drop]
      go_wp2_with fail
      refine ⟨rfl, ?_⟩
      refine Wn.range_end (n := 0) ?_
      refine Wn.code list0q rfl rfl (by kernel_rfl) (K := restK u) (fun a w τ d h => ⟨h.1.on τ d, h.2⟩) (fun τ d => ?_) (fun a' u' todo hd h => ?_)
      · have HG : Hid (Grown u (u1.on τ d)) := HG.out.on τ d
        generalize u1.on τ d = w at HG
        go_wp2_with fail
        exact ⟨rfl, HG.out, rfl⟩
      · exact Wn.finish (v := .bool true) (by decide) rfl hd Try.func3 (fun w => by rw [← h.2]; exact runT_results1 (fn := Try.f3) (t := 6) rfl _ w) rfl (fun _ => rfl) fun w hl => hpost.out w (grown_of_like h.1 hl)
    · rw [he]
      rw [Frame.finish_at]
      refine Wn.span1 4 5 5 (by simp [base]) (by decide) (by decide) (by rw [hfz]; kernel_rfl) ?_
      simp only [List.take, List.drop]
      go_wp2_with fail
      refine ⟨rfl, ?_⟩
      refine Wn.range_end (n := 0) ?_
      refine Wn.code list0q rfl rfl (by kernel_rfl) (K := restK u) (fun a w τ d h => ⟨h.1.on τ d, h.2⟩) (fun τ d => ?_) (fun a' u' todo hd h => ?_)
      · have HG : Hid (Grown u (u1.on τ d)) := HG.out.on τ d
        generalize u1.on τ d = w at HG
        go_wp2_with fail
        exact ⟨rfl, HG.out, rfl⟩
      · exact Wn.finish (v := .bool true) (by decide) rfl hd Try.func3 (fun w => by rw [← h.2]; exact runT_results1 (fn := Try.f3) (t := 6) rfl _ w) rfl (fun _ => rfl) fun w hl => hpost.out w (grown_of_like h.1 hl)
  · refine Wn.toQ ?_
    rw [Frame.finish_at]
    refine Wn.span1 4 5 5 (by simp [base]) (by decide) (by decide) (by rw [hfz]; kernel_rfl) ?_
    simp only [List.take, List.drop]
    go_wp2_with fail
    refine ⟨rfl, ?_⟩
    refine Wn.range_end (n := 0) ?_
    refine Wn.code list0q rfl rfl (by kernel_rfl) (K := restK u) (fun a w τ d h => ⟨h.1.on τ d, h.2⟩) (fun τ d => ?_) (fun a' u' todo hd h => ?_)
    · have HG : Hid (Grown u (u1.on τ d)) := HG.out.on τ d
      generalize u1.on τ d = w at HG
      go_wp2_with fail
      exact ⟨rfl, HG.out, rfl⟩
    · exact Wn.finish (v := .bool true) (by decide) rfl hd Try.func3 (fun w => by rw [← h.2]; exact runT_results1 (fn := Try.f3) (t := 6) rfl _ w) rfl (fun _ => rfl) fun w hl => hpost.out w (grown_of_like h.1 hl)
  intro hm h0 v u4 hpl
  refine Wn.toQ ?_
  show Wn (ctxQ Post (3 + scripts.length)) _ _ _
  have hfzq : (ctxQ Post (3 + scripts.length)).fz = false := rfl
  obtain ⟨hrun, hfn⟩ := hfin.out hm h0
  have HG4 : Hid (Grown u u4) := hpl.grown HG.out HWN0.out HBN.out
  have HS4 : Hid (ScrAt u4 SA scripts) := HS.out.move HG4.out.blk
  obtain ⟨hlen, h1, h8⟩ := mayOf_zero hm
  obtain ⟨ou, ev, hrows⟩ := hpl.rows (fun l hl => by
    obtain ⟨pk, hpk, rfl⟩ := List.mem_map.1 hl
    obtain ⟨j, hj⟩ := List.mem_iff_getElem?.1 hpk
    have hjl := (List.getElem?_eq_some_iff.1 hj).1
    rw [hfn.len] at hjl
    have hs : scripts[j]? = some scripts[j] := List.getElem?_eq_getElem hjl
    rw [hfn.lens j _ pk hs hj]
    have := hlen _ (List.getElem_mem hjl)
    omega) (Grown.refl u4)
  rw [hfn.len] at ev
  subst ev
  have HR : Hid (AnsRows u4 (some ⟨ou, 0, none⟩) (fin.2.map outOf)) := hrows
  obtain ⟨sv', cv, vth, vtr, hw1, hw2⟩ := hpl.w
  have HW5 : Hid (u4.cell? ⟨W, 5, none⟩ = some vtr) := (blk_cell hw1 5).trans rfl
  have HTR : Hid (Row k40 40 u4 vtr fin.1.trace) := hw2
  have HFN : Hid (LatchFin n.toNat scripts fin) := hfn
  have HM : Hid (scripts.length ≤ 8) := h8
  have HL : Hid (∀ l ∈ scripts, l.length ≤ 64) := hlen
  have H0 : Hid (0 ≤ n) := h0
  clear hfin hrun hfn hrows hw1 hw2 hpl hlen h1 h8 h0 hm HF HSW HS1 HSCH HSL HWN HWN0 HBN HG HS
  generalize (⟨ou, 0, none⟩ : Addr) = oa at HR ⊢
  rw [Frame.finish_at]
  refine Wn.span1 4 5 5 (by simp [base]) (by decide) (by decide) (by rw [hfzq]; kernel_rfl) ?_
  simp only [List.take, List.drop]
  go_wp2_with fail
  refine ⟨rfl, ?_⟩
  refine Wn.range_end (n := 0) ?_
  refine Wn.code list0q rfl rfl (by kernel_rfl) (K := restK u) (fun a w τ d h => ⟨h.1.on τ d, h.2⟩) (fun τ d => ?_) (fun a' u' todo hd h => ?_)
  rotate_left
  · exact Wn.finish (v := .bool true) (by decide) rfl hd Try.func3 (fun w => by rw [← h.2]; exact runT_results1 (fn := Try.f3) (t := 6) rfl _ w) rfl (fun _ => rfl) fun w hl => hpost.out w (grown_of_like h.1 hl)
  have HG : Hid (Grown u4 (u4.on τ d)) := (Grown.refl u4).on τ d
  generalize u4.on τ d = w at HG
  have hmx := HMX.out
  go_wp2_with fail
  go_loopg [11, 12, 13, 14, 15] (scripts.length + 1) (fun kq v11 v12 v13 v14 v15 w' => ∃ (i : Nat) (P : List (Cal × Ans)) (x11 x12 x13 x14 : Nat), v15 = num i ∧ v11 = num x11 ∧ v12 = num x12 ∧ v13 = num x13 ∧ v14 = num x14 ∧ Aside0 (P = ((List.zipWith List.zip scripts (fin.2.map outOf)).take i).flatten ∧ i ≤ scripts.length ∧ kq = scripts.length + 1 - i ∧ P.length ≤ 64 * i ∧ Cnts P x11 x12 x13 x14) ∧ Aside0 (Grown u4 w'))
  case atStart => exact ⟨0, [], 0, 0, 0, 0, rfl, rfl, rfl, rfl, rfl, ⟨rfl, by omega, by omega, by simp, ⟨rfl, rfl, rfl, rfl⟩⟩, ⟨HG.out⟩⟩
  case round =>
    clear HG
    obtain ⟨i, P, y11, y12, y13, y14, rfl, rfl, rfl, rfl, rfl, hP, HG⟩ := hrel
    by_cases hend : i < scripts.length
    · have hli : scripts[i]? = some scripts[i] := List.getElem?_eq_getElem hend
      have hfl : i < fin.2.length := by have := HFN.out.len; omega
      have hpi : (fin.2.map outOf)[i]? = some (outOf fin.2[i]) := by rw [List.getElem?_map, List.getElem?_eq_getElem hfl]; rfl
      have hlens := HFN.out.lens i _ _ hli (List.getElem?_eq_getElem hfl)
      have hl64 := HL.out _ (List.getElem_mem hend)
      obtain ⟨ad, Ai, ci, ea, q0, hmA, hAk⟩ := (HR.out.move HG.out) i _ hpi
      cases ea
      obtain ⟨bd, Bi, di, rfl, q1, hBk⟩ := (HS4.out.move HG.out.blk) i _ hli
      have hpre : ((List.zipWith List.zip scripts (fin.2.map outOf)).take (i + 1)).flatten = P ++ List.zip scripts[i] (outOf fin.2[i]) := by
        rw [rows_take hli hpi, hP.out.1]
      generalize scripts[i] = l at hlens q1 hBk hl64 hpre hli
      generalize outOf fin.2[i] = o at hlens q0 hAk hmA hpre hpi
      have HA : Hid (∀ (k : Nat) (a : Ans), o[k]? = some a → ∃ bd, Ai = some bd ∧ wr.cell? (bd.add (k * 2)) = some (num a.code) ∧ wr.cell? ⟨(bd.add (k * 2)).block, (bd.add (k * 2)).off + 1, none⟩ = some (num a.val)) := hAk
      have HB : Hid (Scr wr Bi l) := hBk
      have HPRE : Hid _ := hpre
      clear hAk hBk hpre hli hpi
      rw [hlens] at q0 hmA
      have HLO : Hid (o.length = l.length) := hlens
      clear hlens
      have d1 : decide ((i : Int) < (scripts.length : Int)) = true := decide_eq_true (by omega)
      have d2 : decide ((0 : Int) ≤ (i : Int)) = true := decide_eq_true (by omega)
      have d3 : (i : Int) < (scripts.length : Int) := by omega
      have d4 : (0 : Int) ≤ (i : Int) := by omega
      go_wp2_with fail
      go_quiet (fail)
      go_wp2_with fail
      have hdr : Grown wr (wr.drewN nq) := ⟨fun b hb => rfl, Nat.le_refl _, rfl, rfl⟩
      have HG2 : Hid (Grown u4 (wr.drewN nq)) := HG.out.trans hdr
      replace q0 := hdr.cell q0
      replace q1 := hdr.cell q1
      have HA : Hid (∀ (k : Nat) (a : Ans), o[k]? = some a → ∃ bd, Ai = some bd ∧ (wr.drewN nq).cell? (bd.add (k * 2)) = some (num a.code)) := fun k a hk => by
        obtain ⟨b, h1, h2, _⟩ := HA.out k a hk
        exact ⟨b, h1, hdr.cell h2⟩
      have HB : Hid (∀ (k : Nat) (c : Cal), l[k]? = some c → ∃ bd, Bi = some bd ∧ (wr.drewN nq).cell? (bd.add (k * 4)) = some (num c.op)) := fun k c hk => by
        obtain ⟨b, h1, h2, _⟩ := HB.out k c hk
        exact ⟨b, h1, hdr.cell h2⟩
      clear hdr HG
      generalize wr.drewN nq = w1 at q0 q1 HA HB HG2 ⊢
      go_loopg [11, 12, 13, 14, 16] (l.length + 1) (fun kq v11 v12 v13 v14 v16 w' => ∃ (k : Nat) (P' : List (Cal × Ans)) (x11 x12 x13 x14 : Nat), v16 = num k ∧ v11 = num x11 ∧ v12 = num x12 ∧ v13 = num x13 ∧ v14 = num x14 ∧ Aside0 (P' = P ++ (l.zip o).take k ∧ k ≤ l.length ∧ kq = l.length + 1 - k ∧ P'.length ≤ 64 * i + k ∧ Cnts P' x11 x12 x13 x14) ∧ w' = w1)
      case atStart => exact ⟨0, P, _, _, _, _, rfl, rfl, rfl, rfl, rfl, ⟨by simp, by omega, by omega, by have := hP.out.2.2.2; omega, hP.out.2.2.2.2⟩, rfl⟩
      case round =>
        obtain ⟨k, P', x11, x12, x13, x14, rfl, rfl, rfl, rfl, rfl, hP', rfl⟩ := hrel
        by_cases hke : k < l.length
        · have hlk : l[k]? = some l[k] := List.getElem?_eq_getElem hke
          have hol := HLO.out
          have hko : k < o.length := by omega
          have hok : o[k]? = some o[k] := List.getElem?_eq_getElem hko
          obtain ⟨ae, rfl, r0⟩ := HA.out k _ hok
          obtain ⟨be, rfl, r1⟩ := HB.out k _ hlk
          have htk : Hid ((l.zip o).take (k + 1) = (l.zip o).take k ++ [(l[k], o[k])]) := zip_take hlk hok
          generalize l[k] = c at r1 htk
          generalize o[k] = an at r0 htk
          obtain ⟨co, ca, cb', cc⟩ := c
          obtain ⟨ac, av⟩ := an
          have hPl := hP'.out.2.2.2.1
          have hCn := hP'.out.2.2.2.2
          have hi8 : i < 8 := by have := HM.out; omega
          obtain ⟨hc1, hc2, hc3, hc4⟩ := hCn.le
          have e1 : decide ((k : Int) < (l.length : Int)) = true := decide_eq_true (by omega)
          have e2 : decide ((0 : Int) ≤ (k : Int)) = true := decide_eq_true (by omega)
          have e3 : (k : Int) < (l.length : Int) := by omega
          have e4 : (0 : Int) ≤ (k : Int) := by omega
          have f11 : (x11 : Int) + 1 ≤ 9223372036854775807 := by omega
          have f12 : (x12 : Int) + 1 ≤ 9223372036854775807 := by omega
          have f13 : (x13 : Int) + 1 ≤ 9223372036854775807 := by omega
          have f14 : (x14 : Int) + 1 ≤ 9223372036854775807 := by omega
          have HCN : Hid (Cnts P' x11 x12 x13 x14) := hCn
          clear hPl hCn hi8 hc1 hc2 hc3 hc4
          by_cases o1 : co = 1
          · subst o1
            by_cases a0 : ac = 0
            · subst a0
              go_wp2_with fail
              go_roundg (gk - 1)
              case measure => have := hP'.out; omega
              case rel => exact ⟨k + 1, P' ++ [(⟨1, ca, cb', cc⟩, ⟨0, av⟩)], _, _, _, _, rfl, rfl, rfl, rfl, rfl, ⟨step_take hP'.out.1 htk.out, by omega, by have := hP'.out; omega, by have := hP'.out; simp; omega, HCN.out.snoc (by simp [isD, *]) (by simp [okD, *]) (by simp [isS, *]) (by simp [okW, *])⟩, rfl⟩
            ·
              have ga0a : (ac == 0) = false := beq_eq_false_iff_ne.mpr a0
              have ga0b : decide (ac = 0) = false := decide_eq_false a0
              go_wp2_with fail
              go_roundg (gk - 1)
              case measure => have := hP'.out; omega
              case rel => exact ⟨k + 1, P' ++ [(⟨1, ca, cb', cc⟩, ⟨ac, av⟩)], _, _, _, _, rfl, rfl, rfl, rfl, rfl, ⟨step_take hP'.out.1 htk.out, by omega, by have := hP'.out; omega, by have := hP'.out; simp; omega, HCN.out.snoc (by simp [isD, *]) (by simp [okD, *]) (by simp [isS, *]) (by simp [okW, *])⟩, rfl⟩
          · by_cases o2 : co = 2
            · subst o2
              by_cases a0 : ac = 0
              · subst a0
                go_wp2_with fail
                go_roundg (gk - 1)
                case measure => have := hP'.out; omega
                case rel => exact ⟨k + 1, P' ++ [(⟨2, ca, cb', cc⟩, ⟨0, av⟩)], _, _, _, _, rfl, rfl, rfl, rfl, rfl, ⟨step_take hP'.out.1 htk.out, by omega, by have := hP'.out; omega, by have := hP'.out; simp; omega, HCN.out.snoc (by simp [isD, *]) (by simp [okD, *]) (by simp [isS, *]) (by simp [okW, *])⟩, rfl⟩
              · by_cases a4 : ac = 4
                · subst a4
                  go_wp2_with fail
                  go_roundg (gk - 1)
                  case measure => have := hP'.out; omega
                  case rel => exact ⟨k + 1, P' ++ [(⟨2, ca, cb', cc⟩, ⟨4, av⟩)], _, _, _, _, rfl, rfl, rfl, rfl, rfl, ⟨step_take hP'.out.1 htk.out, by omega, by have := hP'.out; omega, by have := hP'.out; simp; omega, HCN.out.snoc (by simp [isD, *]) (by simp [okD, *]) (by simp [isS, *]) (by simp [okW, *])⟩, rfl⟩
                ·
                  have ga0a : (ac == 0) = false := beq_eq_false_iff_ne.mpr a0
                  have ga0b : decide (ac = 0) = false := decide_eq_false a0
                  have ga4a : (ac == 4) = false := beq_eq_false_iff_ne.mpr a4
                  have ga4b : decide (ac = 4) = false := decide_eq_false a4
                  go_wp2_with fail
                  go_roundg (gk - 1)
                  case measure => have := hP'.out; omega
                  case rel => exact ⟨k + 1, P' ++ [(⟨2, ca, cb', cc⟩, ⟨ac, av⟩)], _, _, _, _, rfl, rfl, rfl, rfl, rfl, ⟨step_take hP'.out.1 htk.out, by omega, by have := hP'.out; omega, by have := hP'.out; simp; omega, HCN.out.snoc (by simp [isD, *]) (by simp [okD, *]) (by simp [isS, *]) (by simp [okW, *])⟩, rfl⟩
            ·
              have go1a : (co == 1) = false := beq_eq_false_iff_ne.mpr o1
              have go1b : decide (co = 1) = false := decide_eq_false o1
              have go2a : (co == 2) = false := beq_eq_false_iff_ne.mpr o2
              have go2b : decide (co = 2) = false := decide_eq_false o2
              go_wp2_with fail
              go_roundg (gk - 1)
              case measure => have := hP'.out; omega
              case rel => exact ⟨k + 1, P' ++ [(⟨co, ca, cb', cc⟩, ⟨ac, av⟩)], _, _, _, _, rfl, rfl, rfl, rfl, rfl, ⟨step_take hP'.out.1 htk.out, by omega, by have := hP'.out; omega, by have := hP'.out; simp; omega, HCN.out.snoc (by simp [isD, *]) (by simp [okD, *]) (by simp [isS, *]) (by simp [okW, *])⟩, rfl⟩
        · have hkl : k = l.length := by have := hP'.out; omega
          subst hkl
          have e1 : decide ((l.length : Int) < (l.length : Int)) = false := decide_eq_false (by omega)
          have hol := HLO.out
          go_wp2_with fail
          go_roundg (scripts.length - i)
          case measure => have := hP.out; omega
          case rel => exact ⟨i + 1, P', _, _, _, _, rfl, rfl, rfl, rfl, rfl, ⟨by rw [HPRE.out, hP'.out.1, List.take_of_length_le (by rw [List.length_zip]; omega)], by omega, by omega, by have := hP'.out; omega, hP'.out.2.2.2.2⟩, ⟨HG2.out⟩⟩
    · have hil : i = scripts.length := by have := hP.out; omega
      subst hil
      have d1 : decide ((scripts.length : Int) < (scripts.length : Int)) = false := decide_eq_false (by omega)
      have hCn := hP.out.2.2.2.2
      have hP1 : P = pairsOf scripts (fin.2.map outOf) := by
        rw [hP.out.1]
        unfold pairsOf
        rw [List.take_of_length_le (by simp; omega)]
      have hPl := hP.out.2.2.2.1
      have HCN : Hid (Cnts P y11 y12 y13 y14 ∧ P = pairsOf scripts (fin.2.map outOf) ∧ P.length ≤ 512) := ⟨hCn, hP1, by have := HM.out; omega⟩
      clear hCn hP1 hPl hP
      go_wp2_with fail
      refine (trace_calls (HG.out.cell HW5.out) (Row.move flat_k40 HTR.out fun k hk => HG.out.blk k (Kd.R_lt HTR.out k hk)) (by have := HFN.out.room; unfold roomB; omega)).mono ?_
      rintro e w2 ⟨tv, rfl, hR, hg2⟩
      obtain ⟨A5, c5, rfl, hSt⟩ := steps_of_row hR
      have HG2 : Hid (Grown u4 w2) := HG.out.trans hg2
      have HST : Hid (StepsAt w2 A5 fin.1.trace) := hSt
      clear hSt hR hg2 HG HTR HW5
      have hrm : fin.1.trace.length ≤ 700000 := HFN.out.room
      obtain ⟨tr, etr⟩ : ∃ tr, Hid (tr = fin.1.trace) := ⟨_, rfl⟩
      rw [← etr.out] at HST hrm ⊢
      have HTL : Hid (TrL n.toNat scripts tr) := by rw [etr.out]; exact HFN.out.tr
      go_wp2_with fail
      go_loopg [19, 20] (tr.length + 1) (fun kq v19 v20 w' => ∃ (j x19 : Nat), v20 = num j ∧ v19 = num x19 ∧ Aside0 (x19 = downsIn (tr.take j) ∧ j ≤ tr.length ∧ kq = tr.length + 1 - j) ∧ Aside0 (Grown w2 w'))
      case atStart => exact ⟨0, 0, rfl, rfl, ⟨rfl, by omega, by omega⟩, ⟨Grown.refl _⟩⟩
      case round =>
        obtain ⟨j, x19, rfl, rfl, hj, HG⟩ := hrel
        by_cases hje : j < tr.length
        · have hjx : tr[j]? = some tr[j] := List.getElem?_eq_getElem hje
          obtain ⟨ad, rfl, q0, q1, q2, q3, q4⟩ := HST.out.move HG.out j _ hjx
          have htk : Hid (tr.take (j + 1) = tr.take j ++ [tr[j]]) := by
            show _ = _
            rw [List.take_add_one, hjx]; rfl
          have HEN : Hid (tr[j].op = 10 → EndL n.toNat scripts (downsIn (tr.take j)) tr[j]) := HTL.out j _ hjx
          generalize tr[j] = x at q0 q1 q2 q3 q4 htk HEN
          obtain ⟨xt, xc, xo, xa, xb⟩ := x
          have hdle : downsIn (tr.take j) ≤ j := by
            have := List.countP_le_length (p := isDown) (l := tr.take j)
            rw [List.length_take] at this
            unfold downsIn
            omega
          have f19 : (x19 : Int) + 1 ≤ 9223372036854775807 := by have := hj.out; omega
          have e1 : decide ((j : Int) < (tr.length : Int)) = true := decide_eq_true (by omega)
          have e2 : decide ((0 : Int) ≤ (j : Int)) = true := decide_eq_true (by omega)
          have e3 : (j : Int) < (tr.length : Int) := by omega
          have e4 : (0 : Int) ≤ (j : Int) := by omega
          clear hdle
          dsimp only at q0 q1 q2 q3 q4
          by_cases o4 : xo = 4
          · subst o4
            by_cases on : xb = wrap64 (xa - 1)
            · have hd : isDown ⟨xt, xc, 4, xa, xb⟩ = true := by unfold isDown; simp [on]
              have g1 : (xb == wrap64 (xa - 1)) = true := beq_iff_eq.mpr on
              have g2 : decide (xb = wrap64 (xa - 1)) = true := decide_eq_true on
              clear on
              go_wp2_with fail
              go_roundg (tr.length - j)
              case measure => have := hj.out; omega
              case rel => exact ⟨j + 1, x19 + 1, rfl, rfl, ⟨by rw [htk.out, downsIn_snoc, hj.out.1, hd]; rfl, by omega, by omega⟩, ⟨HG.out.trans (Grown.alloc _ _)⟩⟩
            · have hd : isDown ⟨xt, xc, 4, xa, xb⟩ = false := by unfold isDown; simp [on]
              have g1 : (xb == wrap64 (xa - 1)) = false := beq_eq_false_iff_ne.mpr on
              have g2 : decide (xb = wrap64 (xa - 1)) = false := decide_eq_false on
              clear on
              go_wp2_with fail
              go_roundg (tr.length - j)
              case measure => have := hj.out; omega
              case rel => exact ⟨j + 1, x19, rfl, rfl, ⟨by rw [htk.out, downsIn_snoc, hj.out.1, hd]; rfl, by omega, by omega⟩, ⟨HG.out.trans (Grown.alloc _ _)⟩⟩
          · have hd : isDown ⟨xt, xc, xo, xa, xb⟩ = false := by unfold isDown; simp [o4]
            have g4a : (xo == 4) = false := beq_eq_false_iff_ne.mpr o4
            have g4b : decide (xo = 4) = false := decide_eq_false o4
            by_cases o10 : xo = 10
            · subst o10
              clear g4a g4b
              obtain ⟨ti, tj, l, c, rfl, rfl, hl, hc, hE1, hE2⟩ := HEN.out rfl
              have ht : ti < scripts.length := (List.getElem?_eq_some_iff.1 hl).1
              have hjl : tj < l.length := (List.getElem?_eq_some_iff.1 hc).1
              obtain ⟨bd, Bi, di, rfl, s0, sB⟩ := (HS4.out.move HG2.out.blk).move HG.out.blk ti _ hl
              obtain ⟨be, rfl, s1, s2, s3, s4⟩ := sB tj _ hc
              have hl64 := HL.out l (List.mem_of_getElem? hl)
              obtain ⟨co, ca, cb', cc⟩ := c
              dsimp only at s1 s2 s3 s4 hE2
              have HE : Hid (xb = 50 → n ≤ (x19 : Int)) := fun e => by have := hE1 e; have := hj.out.1; have := H0.out; omega
              have HE2 : Hid (co = 2 → xb = 0 → n ≤ (x19 : Int)) := fun e e' => by have := hE2 e e'; have := hj.out.1; have := H0.out; omega
              have m1 : decide ((ti : Int) < 0) = false := decide_eq_false (by omega)
              have m2 : decide ((ti : Int) ≥ (scripts.length : Int)) = false := decide_eq_false (by omega)
              have m2' : decide ((scripts.length : Int) ≤ (ti : Int)) = false := decide_eq_false (by omega)
              have m3 : decide ((tj : Int) < 0) = false := decide_eq_false (by omega)
              have m4 : decide ((tj : Int) ≥ (l.length : Int)) = false := decide_eq_false (by omega)
              have m4' : decide ((l.length : Int) ≤ (tj : Int)) = false := decide_eq_false (by omega)
              have m5 : decide ((0 : Int) ≤ (ti : Int)) = true := decide_eq_true (by omega)
              have m6 : decide ((ti : Int) < (scripts.length : Int)) = true := decide_eq_true (by omega)
              have m7 : decide ((0 : Int) ≤ (tj : Int)) = true := decide_eq_true (by omega)
              have m8 : decide ((tj : Int) < (l.length : Int)) = true := decide_eq_true (by omega)
              have m9 : (ti : Int) < (scripts.length : Int) := by omega
              have m10 : (tj : Int) < (l.length : Int) := by omega
              have m11 : (0 : Int) ≤ (ti : Int) := by omega
              have m12 : (0 : Int) ≤ (tj : Int) := by omega
              have m13 : l.length ≤ 9223372036854775806 := by omega
              have m14 : decide (scripts.length ≤ ti) = false := decide_eq_false (by omega)
              have m15 : decide (l.length ≤ tj) = false := decide_eq_false (by omega)
              clear hE1 hE2 hl hc
              go_wp2_with fail
              have hga := Grown.alloc wr (.cells #[num ti, num xc, num 10, num tj, num xb] 40)
              have hnew : (wr.alloc (.cells #[num ti, num xc, num 10, num tj, num xb] 40)).heap[wr.heap.size]? = some (.cells #[num ti, num xc, num 10, num tj, num xb] 40 (0, 0)) := heap_alloc_new _ _
              replace s0 := hga.cell s0
              replace s1 := hga.cell s1
              replace s2 := hga.cell s2
              replace s3 := hga.cell s3
              replace s4 := hga.cell s4
              have c0 := (blk_cell hnew 0).trans (rfl : _ = some (num ti))
              have c3 := (blk_cell hnew 3).trans (rfl : _ = some (num tj))
              have c4 := (blk_cell hnew 4).trans (rfl : _ = some (num xb))
              have HG3 : Hid (Grown w2 (wr.alloc (.cells #[num ti, num xc, num 10, num tj, num xb] 40))) := HG.out.trans hga
              clear hga hnew q0 q1 q2 q3 q4
              generalize wr.alloc (.cells #[num ti, num xc, num 10, num tj, num xb] 40) = w3 at s0 s1 s2 s3 s4 c0 c3 c4 HG3 ⊢
              generalize wr.heap.size = sb at c0 c3 c4 ⊢
              go_quiet (fail)
              have hdr := drew_grown w3 nq
              replace s0 := hdr.cell s0
              replace s1 := hdr.cell s1
              replace s2 := hdr.cell s2
              replace s3 := hdr.cell s3
              replace s4 := hdr.cell s4
              replace c0 := hdr.cell c0
              replace c3 := hdr.cell c3
              replace c4 := hdr.cell c4
              have HG4' : Hid (Grown w2 (w3.drewN nq)) := HG3.out.trans hdr
              clear hdr HG3
              generalize w3.drewN nq = w4 at s0 s1 s2 s3 s4 c0 c3 c4 HG4' ⊢
              go_wp2_with fail
              go_region_held3 (fun w' => w'.cell? (bd.add ti) = some (Value.slice (some be) l.length di) ∧ w'.cell? (be.add (tj * 4)) = some (num co) ∧ w'.cell? ⟨(be.add (tj * 4)).block, (be.add (tj * 4)).off + 1, none⟩ = some (num ca) ∧ w'.cell? ⟨(be.add (tj * 4)).block, (be.add (tj * 4)).off + 2, none⟩ = some (num cb') ∧ w'.cell? ⟨(be.add (tj * 4)).block, (be.add (tj * 4)).off + 3, none⟩ = some (num cc) ∧ w'.cell? ⟨sb, 0, none⟩ = some (num ti) ∧ w'.cell? ⟨sb, 3, none⟩ = some (num tj)) (go_keep) (fail)
              have hdr := (Grown.alloc w4 (.cells #[num co, num ca, num cb', num cc] 36)).trans (drew_grown _ 1)
              have k0 : ((w4.alloc (.cells #[num co, num ca, num cb', num cc] 36)).drew).cell? ⟨w4.heap.size, 0, none⟩ = some (num co) := (blk_cell (heap_alloc_new w4 (.cells #[num co, num ca, num cb', num cc] 36)) 0).trans rfl
              replace c4 : ((w4.alloc (.cells #[num co, num ca, num cb', num cc] 36)).drew).cell? ⟨sb, 4, none⟩ = some (num xb) := hdr.cell c4
              have HG5 : Hid (Grown w2 ((w4.alloc (.cells #[num co, num ca, num cb', num cc] 36)).drew)) := HG4'.out.trans hdr
              clear hdr HG4' s0 s1 s2 s3 s4 c0 c3
              generalize (w4.alloc (.cells #[num co, num ca, num cb', num cc] 36)).drew = w5 at k0 c4 HG5 ⊢
              generalize w4.heap.size = cb at k0 ⊢
              by_cases b50 : xb = 50
              · subst b50
                by_cases o2 : co = 2
                · subst o2
                  have l1 : decide ((x19 : Int) < n) = false := decide_eq_false (by have := HE.out rfl; omega)
                  clear HE HE2
                  go_wp2_with fail
                  go_roundg (tr.length - j)
                  case measure => have := hj.out; omega
                  case rel => exact ⟨j + 1, x19, rfl, rfl, ⟨by rw [htk.out, downsIn_snoc, hj.out.1, hd]; rfl, by omega, by omega⟩, ⟨HG5.out⟩⟩
                ·
                  have l1 : decide ((x19 : Int) < n) = false := decide_eq_false (by have := HE.out rfl; omega)
                  have go2a : (co == 2) = false := beq_eq_false_iff_ne.mpr o2
                  have go2b : decide (co = 2) = false := decide_eq_false o2
                  clear HE HE2
                  go_wp2_with fail
                  go_roundg (tr.length - j)
                  case measure => have := hj.out; omega
                  case rel => exact ⟨j + 1, x19, rfl, rfl, ⟨by rw [htk.out, downsIn_snoc, hj.out.1, hd]; rfl, by omega, by omega⟩, ⟨HG5.out⟩⟩
              · by_cases o2 : co = 2
                · subst o2
                  by_cases b0 : xb = 0
                  · subst b0
                    have l1 : decide ((x19 : Int) < n) = false := decide_eq_false (by have := HE2.out rfl rfl; omega)
                    clear HE HE2
                    go_wp2_with fail
                    go_roundg (tr.length - j)
                    case measure => have := hj.out; omega
                    case rel => exact ⟨j + 1, x19, rfl, rfl, ⟨by rw [htk.out, downsIn_snoc, hj.out.1, hd]; rfl, by omega, by omega⟩, ⟨HG5.out⟩⟩
                  ·
                    have gb50a : (xb == 50) = false := beq_eq_false_iff_ne.mpr b50
                    have gb50b : decide (xb = 50) = false := decide_eq_false b50
                    have gb0a : (xb == 0) = false := beq_eq_false_iff_ne.mpr b0
                    have gb0b : decide (xb = 0) = false := decide_eq_false b0
                    clear HE HE2
                    go_wp2_with fail
                    go_roundg (tr.length - j)
                    case measure => have := hj.out; omega
                    case rel => exact ⟨j + 1, x19, rfl, rfl, ⟨by rw [htk.out, downsIn_snoc, hj.out.1, hd]; rfl, by omega, by omega⟩, ⟨HG5.out⟩⟩
                ·
                  have gb50a : (xb == 50) = false := beq_eq_false_iff_ne.mpr b50
                  have gb50b : decide (xb = 50) = false := decide_eq_false b50
                  have go2a : (co == 2) = false := beq_eq_false_iff_ne.mpr o2
                  have go2b : decide (co = 2) = false := decide_eq_false o2
                  clear HE HE2
                  go_wp2_with fail
                  go_roundg (tr.length - j)
                  case measure => have := hj.out; omega
                  case rel => exact ⟨j + 1, x19, rfl, rfl, ⟨by rw [htk.out, downsIn_snoc, hj.out.1, hd]; rfl, by omega, by omega⟩, ⟨HG5.out⟩⟩
            · have g10a : (xo == 10) = false := beq_eq_false_iff_ne.mpr o10
              have g10b : decide (xo = 10) = false := decide_eq_false o10
              have g10c : (xo != 10) = true := bne_iff_ne.mpr o10
              go_wp2_with fail
              go_roundg (tr.length - j)
              case measure => have := hj.out; omega
              case rel => exact ⟨j + 1, x19, rfl, rfl, ⟨by rw [htk.out, downsIn_snoc, hj.out.1, hd]; rfl, by omega, by omega⟩, ⟨HG.out.trans (Grown.alloc _ _)⟩⟩
        · have hjl : j = tr.length := by have := hj.out; omega
          subst hjl
          have e1 : decide ((tr.length : Int) < (tr.length : Int)) = false := decide_eq_false (by omega)
          have hx : x19 = downsIn tr := by rw [hj.out.1, List.take_length]
          obtain ⟨hC, hPe, hPl⟩ := HCN.out
          have hy : y12 = x19 := by rw [hx, hC.b, hPe, etr.out]; exact HFN.out.fine
          have hle : x19 ≤ n.toNat := by rw [hx, etr.out]; exact HFN.out.le
          have h0 := H0.out
          have hDe : downsIn fin.1.trace = x19 := by rw [hx, etr.out]
          have hb : y12 ≤ y11 := by
            rw [hC.a, hC.b]
            refine List.countP_mono_left fun p hp h => ?_
            unfold okD at h
            unfold isD
            simp only [Bool.and_eq_true] at h
            exact h.1
          subst hy
          by_cases hD : (y12 : Int) = n
          · have hs : y13 = 0 := by
              rw [hC.c, hPe, List.countP_eq_zero]
              intro p hp h
              unfold isS at h
              simp only [Bool.and_eq_true, decide_eq_true_eq] at h
              have := HFN.out.stuck p hp h.2
              omega
            subst hs
            have g1 : decide ((y12 : Int) > n) = false := decide_eq_false (by omega)
            have g2 : decide (n < (y12 : Int)) = false := decide_eq_false (by omega)
            have g3 : ((y12 : Int) == n) = true := beq_iff_eq.mpr hD
            have g4 : decide ((y12 : Int) = n) = true := decide_eq_true hD
            have g5 : decide ((y11 : Int) ≥ n) = true := decide_eq_true (by omega)
            have g6 : decide (n ≤ (y11 : Int)) = true := decide_eq_true (by omega)
            have HE : Hid (Grown u wr) := HG4.out.trans (HG2.out.trans HG.out)
            clear hD hC hPe hPl hle h0 hDe hb hx
            go_wp2_with fail
            exact ⟨rfl, HE.out, rfl⟩
          · have hs : y14 = 0 := by
              rw [hC.d, hPe, List.countP_eq_zero]
              intro p hp h
              unfold okW at h
              simp only [Bool.and_eq_true, decide_eq_true_eq] at h
              have := HFN.out.waits p hp h.1 h.2
              omega
            subst hs
            have g1 : decide ((y12 : Int) > n) = false := decide_eq_false (by omega)
            have g2 : decide (n < (y12 : Int)) = false := decide_eq_false (by omega)
            have g3 : ((y12 : Int) == n) = false := beq_eq_false_iff_ne.mpr hD
            have g4 : decide ((y12 : Int) = n) = false := decide_eq_false hD
            have HE : Hid (Grown u wr) := HG4.out.trans (HG2.out.trans HG.out)
            clear hD hC hPe hPl hle h0 hDe hb hx
            by_cases hd : n ≤ (y11 : Int)
            · have g5 : decide ((y11 : Int) ≥ n) = true := decide_eq_true hd
              have g6 : decide (n ≤ (y11 : Int)) = true := decide_eq_true hd
              clear hd
              go_wp2_with fail
              exact ⟨rfl, HE.out, rfl⟩
            · have g5 : decide ((y11 : Int) ≥ n) = false := decide_eq_false hd
              have g6 : decide (n ≤ (y11 : Int)) = false := decide_eq_false hd
              clear hd
              go_wp2_with fail
              exact ⟨rfl, HE.out, rfl⟩
end Go.Proofs.Ytoabkcalphpkhaa

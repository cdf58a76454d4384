/- Merged: Counted47. -/
import Derived.Test.YtoabkcalphpkhaaN21
import Derived.Test.YtoabkcalphpkhaaN27
/- butlerlaw06.counted: the lone machine's contract. (Printed by gen_counted47.py.) -/
namespace Go.Proofs.Ytoabkcalphpkhaa
open Go Go.Conc Go.RowKit
open Go.Proofs.YtoabkcalphpkhaaW.PrintWords
set_option linter.unusedVariables false
set_option linter.unusedSimpArgs false
set_option linter.unusedSectionVars false
set_option maxRecDepth 100000

theorem insOf_bound : ∀ l : List (Cal × Ans), -(l.length : Int) ≤ insOf l ∧ insOf l ≤ l.length
  | [] => ⟨by decide, by decide⟩
  | (c, a) :: l => by
    have := insOf_bound l
    simp only [insOf, List.length_cons]
    split
    · omega
    · split <;> omega
structure CntG (P : List (Cal × Ans)) (x : Int) (f : Nat) (s : Bool) : Prop where
  ins : x = insOf P
  fst : f = P.countP isFst
  st : s = P.any fun p => decide (p.2.code = 4)
theorem CntG.snoc {P : List (Cal × Ans)} {x x' : Int} {f f' : Nat} {s s' : Bool} {c : Cal} {a : Ans} (h : CntG P x f s) (h1 : x' = x + (if c.op = 1 ∧ a.code = 0 then 1 else if c.op = 2 ∧ a.code = 0 then -1 else 0)) (h2 : f' = f + if isFst (c, a) then 1 else 0) (h3 : s' = (s || decide (a.code = 4))) : CntG (P ++ [(c, a)]) x' f' s' :=
  ⟨by rw [h1, h.ins, insOf_snoc], by rw [h2, h.fst, fst_snoc], by rw [h3, h.st, List.any_append]; simp⟩
theorem CntG.bound {P : List (Cal × Ans)} {x : Int} {f : Nat} {s : Bool} (h : CntG P x f s) : -(P.length : Int) ≤ x ∧ x ≤ P.length ∧ f ≤ P.length := by
  rw [h.ins, h.fst]
  exact ⟨(insOf_bound P).1, (insOf_bound P).2, List.countP_le_length⟩

set_option maxHeartbeats 4000000 in
theorem counted_calls {w : World} {SA A : Option Addr} {scp ca : Nat} {scripts : List (List Cal)} {outs : List (List Ans)} {I S : Int} (hmx : scripts.length ≤ 9223372036854775806) (h8 : scripts.length ≤ 8) (h64 : ∀ l ∈ scripts, l.length ≤ 64) (hS : ScrAt w SA scripts) (hA : AnsRows w A outs) (hlen : outs.length = scripts.length)
    (hlens : ∀ (i : Nat) l o, scripts[i]? = some l → outs[i]? = some o → o.length = l.length) (hI : insOf (pairsOf scripts outs) = I) (hF : ((pairsOf scripts outs).countP isFst : Int) ≤ S) (hF2 : ((pairsOf scripts outs).countP isFst : Int) = S ∨ ∃ p ∈ pairsOf scripts outs, p.2.code = 4) :
    Calls Try.prog 47 #[.slice SA scripts.length scp, .slice A scripts.length ca, num I, num S] w fun e w' => e = .returned (.bool true) ∧ Grown w w' := by
  have HS : Hid (ScrAt w SA scripts) := hS
  have HR : Hid (AnsRows w A outs) := hA
  have HLEN : Hid (outs.length = scripts.length) := hlen
  have HLENS : Hid (∀ (i : Nat) l o, scripts[i]? = some l → outs[i]? = some o → o.length = l.length) := hlens
  have HI : Hid (insOf (pairsOf scripts outs) = I) := hI
  have HF : Hid (((pairsOf scripts outs).countP isFst : Int) ≤ S) := hF
  have HF2 : Hid (((pairsOf scripts outs).countP isFst : Int) = S ∨ ∃ p ∈ pairsOf scripts outs, p.2.code = 4) := hF2
  have H8 : Hid (scripts.length ≤ 8) := h8
  have H64 : Hid (∀ l ∈ scripts, l.length ≤ 64) := h64
  clear hS hA hlen hlens hI hF hF2 h8 h64
  go_enter Try.func47, Try.ntmps47
  go_wp2_with fail
  go_loopg [9, 10, 11, 12] (scripts.length + 1) (fun kq v9 v10 v11 v12 w' => ∃ (i : Nat) (P : List (Cal × Ans)) (x9 : Int) (x10 : Nat) (sb : Bool), v12 = num i ∧ v9 = num x9 ∧ v10 = num x10 ∧ v11 = .bool sb ∧ Aside0 (P = ((List.zipWith List.zip scripts outs).take i).flatten ∧ i ≤ scripts.length ∧ kq = scripts.length + 1 - i ∧ P.length ≤ 64 * i ∧ CntG P x9 x10 sb) ∧ Aside0 (Grown w w'))
  case atStart => exact ⟨0, [], 0, 0, false, rfl, rfl, rfl, rfl, ⟨rfl, by omega, by omega, by simp, ⟨rfl, rfl, rfl⟩⟩, ⟨Grown.refl w⟩⟩
  case round =>
    obtain ⟨i, P, y9, y10, tb, rfl, rfl, rfl, rfl, hP, HG⟩ := hrel
    by_cases hend : i < scripts.length
    · have hli : scripts[i]? = some scripts[i] := List.getElem?_eq_getElem hend
      have hfl : i < outs.length := by have := HLEN.out; omega
      have hpi : outs[i]? = some outs[i] := List.getElem?_eq_getElem hfl
      have hlens := HLENS.out i _ _ hli hpi
      have hl64 := H64.out _ (List.getElem_mem hend)
      obtain ⟨ad, Ai, ci, rfl, q0, hmA, hAk⟩ := (HR.out.move HG.out) i _ hpi
      obtain ⟨bd, Bi, di, rfl, q1, hBk⟩ := (HS.out.move HG.out.blk) i _ hli
      have hpre : ((List.zipWith List.zip scripts outs).take (i + 1)).flatten = P ++ List.zip scripts[i] outs[i] := by
        rw [rows_take hli hpi, hP.out.1]
      generalize scripts[i] = l at hlens q1 hBk hl64 hpre hli
      generalize outs[i] = o at hlens q0 hAk hmA hpre hpi
      have HPRE : Hid _ := hpre
      rw [hlens] at q0 hmA
      have HLO : Hid (o.length = l.length) := hlens
      have d1 : decide ((i : Int) < (scripts.length : Int)) = true := decide_eq_true (by omega)
      have d2 : decide ((0 : Int) ≤ (i : Int)) = true := decide_eq_true (by omega)
      have d3 : (i : Int) < (scripts.length : Int) := by omega
      have d4 : (0 : Int) ≤ (i : Int) := by omega
      have HA : Hid (∀ (k : Nat) (a : Ans), o[k]? = some a → ∃ bd, Ai = some bd ∧ wr.cell? (bd.add (k * 2)) = some (num a.code) ∧ wr.cell? ⟨(bd.add (k * 2)).block, (bd.add (k * 2)).off + 1, none⟩ = some (num a.val)) := hAk
      have HB : Hid (Scr wr Bi l) := hBk
      clear hAk hBk hpre hli hpi hlens
      go_wp2_with fail
      go_quiet (fail)
      go_wp2_with fail
      have hdr : Grown wr (wr.drewN nq) := drew_grown wr nq
      have HG2 : Hid (Grown w (wr.drewN nq)) := HG.out.trans hdr
      replace q0 := hdr.cell q0
      replace q1 := hdr.cell q1
      have HQ0 : Hid ((wr.drewN nq).cell? (ad.add i) = some (.slice Ai l.length ci)) := q0
      have HQ1 : Hid ((wr.drewN nq).cell? (bd.add i) = some (.slice Bi l.length di)) := q1
      have HA : Hid (∀ (k : Nat) (a : Ans), o[k]? = some a → ∃ bd, Ai = some bd ∧ (wr.drewN nq).cell? (bd.add (k * 2)) = some (num a.code) ∧ (wr.drewN nq).cell? ⟨(bd.add (k * 2)).block, (bd.add (k * 2)).off + 1, none⟩ = some (num a.val)) := fun k a hk => by
        obtain ⟨b, h1, h2, h3⟩ := HA.out k a hk
        exact ⟨b, h1, hdr.cell h2, hdr.cell h3⟩
      have HB : Hid (∀ (k : Nat) (c : Cal), l[k]? = some c → ∃ bd, Bi = some bd ∧ (wr.drewN nq).cell? (bd.add (k * 4)) = some (num c.op)) := fun k c hk => by
        obtain ⟨b, h1, h2, _⟩ := HB.out k c hk
        exact ⟨b, h1, hdr.cell h2⟩
      clear hdr HG q0 q1
      generalize wr.drewN nq = w1 at HQ0 HQ1 HA HB HG2 ⊢
      go_loopg [9, 10, 11, 13] (l.length + 1) (fun kq v9 v10 v11 v13 w' => ∃ (k : Nat) (P' : List (Cal × Ans)) (x9 : Int) (x10 : Nat) (sb : Bool), v13 = num k ∧ v9 = num x9 ∧ v10 = num x10 ∧ v11 = .bool sb ∧ Aside0 (P' = P ++ (l.zip o).take k ∧ k ≤ l.length ∧ kq = l.length + 1 - k ∧ P'.length ≤ 64 * i + k ∧ CntG P' x9 x10 sb) ∧ Aside0 (Grown w1 w'))
      case atStart => exact ⟨0, P, _, _, _, rfl, rfl, rfl, rfl, ⟨by simp, by omega, by omega, by have := hP.out.2.2.2; omega, hP.out.2.2.2.2⟩, ⟨Grown.refl _⟩⟩
      case round =>
        obtain ⟨k, P', x9, x10, sb, rfl, rfl, rfl, rfl, hP', HG3⟩ := hrel
        have q0 := HG3.out.cell HQ0.out
        have q1 := HG3.out.cell HQ1.out
        by_cases hke : k < l.length
        · have hlk : l[k]? = some l[k] := List.getElem?_eq_getElem hke
          have hol := HLO.out
          have hko : k < o.length := by omega
          have hok : o[k]? = some o[k] := List.getElem?_eq_getElem hko
          obtain ⟨ae, rfl, r0, r0'⟩ := HA.out k _ hok
          obtain ⟨be, rfl, r1⟩ := HB.out k _ hlk
          replace r0 := HG3.out.cell r0
          replace r0' := HG3.out.cell r0'
          replace r1 := HG3.out.cell r1
          have htk : Hid ((l.zip o).take (k + 1) = (l.zip o).take k ++ [(l[k], o[k])]) := zip_take hlk hok
          generalize l[k] = c at r1 htk
          generalize o[k] = an at r0 r0' htk
          obtain ⟨co, ca, cb', cc⟩ := c
          obtain ⟨ac, av⟩ := an
          dsimp only at r0 r0' r1
          have hPl := hP'.out.2.2.2.1
          have hCn := hP'.out.2.2.2.2
          have hi8 : i < 8 := by have := H8.out; omega
          obtain ⟨hc1, hc2, hc3⟩ := hCn.bound
          have e1 : decide ((k : Int) < (l.length : Int)) = true := decide_eq_true (by omega)
          have e2 : decide ((0 : Int) ≤ (k : Int)) = true := decide_eq_true (by omega)
          have e3 : (k : Int) < (l.length : Int) := by omega
          have e4 : (0 : Int) ≤ (k : Int) := by omega
          have f9 : x9 + 1 ≤ 9223372036854775807 := by omega
          have f9' : -9223372036854775808 ≤ x9 + 1 := by omega
          have g9 : x9 - 1 ≤ 9223372036854775807 := by omega
          have g9' : -9223372036854775808 ≤ x9 - 1 := by omega
          have w9 : wrap64 (x9 + 1) = x9 + 1 := wrap64_id f9' f9
          have w9' : wrap64 (x9 - 1) = x9 - 1 := wrap64_id g9' g9
          have f10 : (x10 : Int) + 1 ≤ 9223372036854775807 := by omega
          have HCN : Hid (CntG P' x9 x10 sb) := hCn
          clear hPl hCn hi8 hc1 hc2 hc3 hlk hok
          go_upto_region 15 with (fail)
          have hga := Grown.alloc wr (.cells #[num ac, num av] 34)
          have hnew : (wr.alloc (.cells #[num ac, num av] 34)).heap[wr.heap.size]? = some (.cells #[num ac, num av] 34 (0, 0)) := heap_alloc_new _ _
          have c0 := (blk_cell hnew 0).trans (rfl : _ = some (num ac))
          have c1 := (blk_cell hnew 1).trans (rfl : _ = some (num av))
          replace q1 := hga.cell q1
          replace r1 := hga.cell r1
          have HG4 : Hid (Grown w1 (wr.alloc (.cells #[num ac, num av] 34))) := HG3.out.trans hga
          clear hga hnew q0 r0 r0'
          generalize wr.alloc (.cells #[num ac, num av] 34) = w2 at q1 r1 c0 c1 HG4 ⊢
          generalize wr.heap.size = nb at c0 c1 ⊢
          cases sb with
          | true =>
            by_cases o1 : co = 1
            · subst o1
              by_cases a0 : ac = 0
              · subst a0
                go_wp2_with fail
                go_roundg (gk - 1)
                case measure => have := hP'.out; omega
                case rel => exact ⟨k + 1, P' ++ [(⟨1, ca, cb', cc⟩, ⟨0, av⟩)], _, _, _, rfl, rfl, rfl, rfl, ⟨step_take hP'.out.1 htk.out, by omega, by have := hP'.out; omega, by have := hP'.out; simp; omega, HCN.out.snoc (by simp [*]; first | done | rfl | omega) (by simp [isFst, *]) (by simp [*])⟩, ⟨HG4.out⟩⟩
              · by_cases a4 : ac = 4
                · subst a4
                  go_wp2_with fail
                  go_roundg (gk - 1)
                  case measure => have := hP'.out; omega
                  case rel => exact ⟨k + 1, P' ++ [(⟨1, ca, cb', cc⟩, ⟨4, av⟩)], _, _, _, rfl, rfl, rfl, rfl, ⟨step_take hP'.out.1 htk.out, by omega, by have := hP'.out; omega, by have := hP'.out; simp; omega, HCN.out.snoc (by simp [*]; first | done | rfl | omega) (by simp [isFst, *]) (by simp [*])⟩, ⟨HG4.out⟩⟩
                ·
                  have ga0a : (ac == 0) = false := beq_eq_false_iff_ne.mpr a0
                  have ga0b : decide (ac = 0) = false := decide_eq_false a0
                  have ga4a : (ac == 4) = false := beq_eq_false_iff_ne.mpr a4
                  have ga4b : decide (ac = 4) = false := decide_eq_false a4
                  go_wp2_with fail
                  go_roundg (gk - 1)
                  case measure => have := hP'.out; omega
                  case rel => exact ⟨k + 1, P' ++ [(⟨1, ca, cb', cc⟩, ⟨ac, av⟩)], _, _, _, rfl, rfl, rfl, rfl, ⟨step_take hP'.out.1 htk.out, by omega, by have := hP'.out; omega, by have := hP'.out; simp; omega, HCN.out.snoc (by simp [*]; first | done | rfl | omega) (by simp [isFst, *]) (by simp [*])⟩, ⟨HG4.out⟩⟩
            · by_cases o2 : co = 2
              · subst o2
                by_cases a0 : ac = 0
                · subst a0
                  go_wp2_with fail
                  go_roundg (gk - 1)
                  case measure => have := hP'.out; omega
                  case rel => exact ⟨k + 1, P' ++ [(⟨2, ca, cb', cc⟩, ⟨0, av⟩)], _, _, _, rfl, rfl, rfl, rfl, ⟨step_take hP'.out.1 htk.out, by omega, by have := hP'.out; omega, by have := hP'.out; simp; omega, HCN.out.snoc (by simp [*]; first | done | rfl | omega) (by simp [isFst, *]) (by simp [*])⟩, ⟨HG4.out⟩⟩
                · by_cases a4 : ac = 4
                  · subst a4
                    go_wp2_with fail
                    go_roundg (gk - 1)
                    case measure => have := hP'.out; omega
                    case rel => exact ⟨k + 1, P' ++ [(⟨2, ca, cb', cc⟩, ⟨4, av⟩)], _, _, _, rfl, rfl, rfl, rfl, ⟨step_take hP'.out.1 htk.out, by omega, by have := hP'.out; omega, by have := hP'.out; simp; omega, HCN.out.snoc (by simp [*]; first | done | rfl | omega) (by simp [isFst, *]) (by simp [*])⟩, ⟨HG4.out⟩⟩
                  ·
                    have ga0a : (ac == 0) = false := beq_eq_false_iff_ne.mpr a0
                    have ga0b : decide (ac = 0) = false := decide_eq_false a0
                    have ga4a : (ac == 4) = false := beq_eq_false_iff_ne.mpr a4
                    have ga4b : decide (ac = 4) = false := decide_eq_false a4
                    go_wp2_with fail
                    go_roundg (gk - 1)
                    case measure => have := hP'.out; omega
                    case rel => exact ⟨k + 1, P' ++ [(⟨2, ca, cb', cc⟩, ⟨ac, av⟩)], _, _, _, rfl, rfl, rfl, rfl, ⟨step_take hP'.out.1 htk.out, by omega, by have := hP'.out; omega, by have := hP'.out; simp; omega, HCN.out.snoc (by simp [*]; first | done | rfl | omega) (by simp [isFst, *]) (by simp [*])⟩, ⟨HG4.out⟩⟩
              · by_cases o3 : co = 3
                · subst o3
                  by_cases a0 : ac = 0
                  · subst a0
                    by_cases v1 : av = 1
                    · subst v1
                      go_wp2_with fail
                      go_roundg (gk - 1)
                      case measure => have := hP'.out; omega
                      case rel => exact ⟨k + 1, P' ++ [(⟨3, ca, cb', cc⟩, ⟨0, 1⟩)], _, _, _, rfl, rfl, rfl, rfl, ⟨step_take hP'.out.1 htk.out, by omega, by have := hP'.out; omega, by have := hP'.out; simp; omega, HCN.out.snoc (by simp [*]; first | done | rfl | omega) (by simp [isFst, *]) (by simp [*])⟩, ⟨HG4.out⟩⟩
                    ·
                      have gv1a : (av == 1) = false := beq_eq_false_iff_ne.mpr v1
                      have gv1b : decide (av = 1) = false := decide_eq_false v1
                      go_wp2_with fail
                      go_roundg (gk - 1)
                      case measure => have := hP'.out; omega
                      case rel => exact ⟨k + 1, P' ++ [(⟨3, ca, cb', cc⟩, ⟨0, av⟩)], _, _, _, rfl, rfl, rfl, rfl, ⟨step_take hP'.out.1 htk.out, by omega, by have := hP'.out; omega, by have := hP'.out; simp; omega, HCN.out.snoc (by simp [*]; first | done | rfl | omega) (by simp [isFst, *]) (by simp [*])⟩, ⟨HG4.out⟩⟩
                  · by_cases a4 : ac = 4
                    · subst a4
                      go_wp2_with fail
                      go_roundg (gk - 1)
                      case measure => have := hP'.out; omega
                      case rel => exact ⟨k + 1, P' ++ [(⟨3, ca, cb', cc⟩, ⟨4, av⟩)], _, _, _, rfl, rfl, rfl, rfl, ⟨step_take hP'.out.1 htk.out, by omega, by have := hP'.out; omega, by have := hP'.out; simp; omega, HCN.out.snoc (by simp [*]; first | done | rfl | omega) (by simp [isFst, *]) (by simp [*])⟩, ⟨HG4.out⟩⟩
                    ·
                      have ga0a : (ac == 0) = false := beq_eq_false_iff_ne.mpr a0
                      have ga0b : decide (ac = 0) = false := decide_eq_false a0
                      have ga4a : (ac == 4) = false := beq_eq_false_iff_ne.mpr a4
                      have ga4b : decide (ac = 4) = false := decide_eq_false a4
                      go_wp2_with fail
                      go_roundg (gk - 1)
                      case measure => have := hP'.out; omega
                      case rel => exact ⟨k + 1, P' ++ [(⟨3, ca, cb', cc⟩, ⟨ac, av⟩)], _, _, _, rfl, rfl, rfl, rfl, ⟨step_take hP'.out.1 htk.out, by omega, by have := hP'.out; omega, by have := hP'.out; simp; omega, HCN.out.snoc (by simp [*]; first | done | rfl | omega) (by simp [isFst, *]) (by simp [*])⟩, ⟨HG4.out⟩⟩
                ·
                  have go1a : (co == 1) = false := beq_eq_false_iff_ne.mpr o1
                  have go1b : decide (co = 1) = false := decide_eq_false o1
                  have go2a : (co == 2) = false := beq_eq_false_iff_ne.mpr o2
                  have go2b : decide (co = 2) = false := decide_eq_false o2
                  have go3a : (co == 3) = false := beq_eq_false_iff_ne.mpr o3
                  have go3b : decide (co = 3) = false := decide_eq_false o3
                  by_cases a0 : ac = 0
                  · subst a0
                    go_wp2_with fail
                    go_roundg (gk - 1)
                    case measure => have := hP'.out; omega
                    case rel => exact ⟨k + 1, P' ++ [(⟨co, ca, cb', cc⟩, ⟨0, av⟩)], _, _, _, rfl, rfl, rfl, rfl, ⟨step_take hP'.out.1 htk.out, by omega, by have := hP'.out; omega, by have := hP'.out; simp; omega, HCN.out.snoc (by simp [*]; first | done | rfl | omega) (by simp [isFst, *]) (by simp [*])⟩, ⟨HG4.out⟩⟩
                  · by_cases a4 : ac = 4
                    · subst a4
                      go_wp2_with fail
                      go_roundg (gk - 1)
                      case measure => have := hP'.out; omega
                      case rel => exact ⟨k + 1, P' ++ [(⟨co, ca, cb', cc⟩, ⟨4, av⟩)], _, _, _, rfl, rfl, rfl, rfl, ⟨step_take hP'.out.1 htk.out, by omega, by have := hP'.out; omega, by have := hP'.out; simp; omega, HCN.out.snoc (by simp [*]; first | done | rfl | omega) (by simp [isFst, *]) (by simp [*])⟩, ⟨HG4.out⟩⟩
                    ·
                      have ga0a : (ac == 0) = false := beq_eq_false_iff_ne.mpr a0
                      have ga0b : decide (ac = 0) = false := decide_eq_false a0
                      have ga4a : (ac == 4) = false := beq_eq_false_iff_ne.mpr a4
                      have ga4b : decide (ac = 4) = false := decide_eq_false a4
                      go_wp2_with fail
                      go_roundg (gk - 1)
                      case measure => have := hP'.out; omega
                      case rel => exact ⟨k + 1, P' ++ [(⟨co, ca, cb', cc⟩, ⟨ac, av⟩)], _, _, _, rfl, rfl, rfl, rfl, ⟨step_take hP'.out.1 htk.out, by omega, by have := hP'.out; omega, by have := hP'.out; simp; omega, HCN.out.snoc (by simp [*]; first | done | rfl | omega) (by simp [isFst, *]) (by simp [*])⟩, ⟨HG4.out⟩⟩
          | false =>
            by_cases o1 : co = 1
            · subst o1
              by_cases a0 : ac = 0
              · subst a0
                go_wp2_with fail
                go_roundg (gk - 1)
                case measure => have := hP'.out; omega
                case rel => exact ⟨k + 1, P' ++ [(⟨1, ca, cb', cc⟩, ⟨0, av⟩)], _, _, _, rfl, rfl, rfl, rfl, ⟨step_take hP'.out.1 htk.out, by omega, by have := hP'.out; omega, by have := hP'.out; simp; omega, HCN.out.snoc (by simp [*]; first | done | rfl | omega) (by simp [isFst, *]) (by simp [*])⟩, ⟨HG4.out⟩⟩
              · by_cases a4 : ac = 4
                · subst a4
                  go_wp2_with fail
                  go_roundg (gk - 1)
                  case measure => have := hP'.out; omega
                  case rel => exact ⟨k + 1, P' ++ [(⟨1, ca, cb', cc⟩, ⟨4, av⟩)], _, _, _, rfl, rfl, rfl, rfl, ⟨step_take hP'.out.1 htk.out, by omega, by have := hP'.out; omega, by have := hP'.out; simp; omega, HCN.out.snoc (by simp [*]; first | done | rfl | omega) (by simp [isFst, *]) (by simp [*])⟩, ⟨HG4.out⟩⟩
                ·
                  have ga0a : (ac == 0) = false := beq_eq_false_iff_ne.mpr a0
                  have ga0b : decide (ac = 0) = false := decide_eq_false a0
                  have ga4a : (ac == 4) = false := beq_eq_false_iff_ne.mpr a4
                  have ga4b : decide (ac = 4) = false := decide_eq_false a4
                  go_wp2_with fail
                  go_roundg (gk - 1)
                  case measure => have := hP'.out; omega
                  case rel => exact ⟨k + 1, P' ++ [(⟨1, ca, cb', cc⟩, ⟨ac, av⟩)], _, _, _, rfl, rfl, rfl, rfl, ⟨step_take hP'.out.1 htk.out, by omega, by have := hP'.out; omega, by have := hP'.out; simp; omega, HCN.out.snoc (by simp [*]; first | done | rfl | omega) (by simp [isFst, *]) (by simp [*])⟩, ⟨HG4.out⟩⟩
            · by_cases o2 : co = 2
              · subst o2
                by_cases a0 : ac = 0
                · subst a0
                  go_wp2_with fail
                  go_roundg (gk - 1)
                  case measure => have := hP'.out; omega
                  case rel => exact ⟨k + 1, P' ++ [(⟨2, ca, cb', cc⟩, ⟨0, av⟩)], _, _, _, rfl, rfl, rfl, rfl, ⟨step_take hP'.out.1 htk.out, by omega, by have := hP'.out; omega, by have := hP'.out; simp; omega, HCN.out.snoc (by simp [*]; first | done | rfl | omega) (by simp [isFst, *]) (by simp [*])⟩, ⟨HG4.out⟩⟩
                · by_cases a4 : ac = 4
                  · subst a4
                    go_wp2_with fail
                    go_roundg (gk - 1)
                    case measure => have := hP'.out; omega
                    case rel => exact ⟨k + 1, P' ++ [(⟨2, ca, cb', cc⟩, ⟨4, av⟩)], _, _, _, rfl, rfl, rfl, rfl, ⟨step_take hP'.out.1 htk.out, by omega, by have := hP'.out; omega, by have := hP'.out; simp; omega, HCN.out.snoc (by simp [*]; first | done | rfl | omega) (by simp [isFst, *]) (by simp [*])⟩, ⟨HG4.out⟩⟩
                  ·
                    have ga0a : (ac == 0) = false := beq_eq_false_iff_ne.mpr a0
                    have ga0b : decide (ac = 0) = false := decide_eq_false a0
                    have ga4a : (ac == 4) = false := beq_eq_false_iff_ne.mpr a4
                    have ga4b : decide (ac = 4) = false := decide_eq_false a4
                    go_wp2_with fail
                    go_roundg (gk - 1)
                    case measure => have := hP'.out; omega
                    case rel => exact ⟨k + 1, P' ++ [(⟨2, ca, cb', cc⟩, ⟨ac, av⟩)], _, _, _, rfl, rfl, rfl, rfl, ⟨step_take hP'.out.1 htk.out, by omega, by have := hP'.out; omega, by have := hP'.out; simp; omega, HCN.out.snoc (by simp [*]; first | done | rfl | omega) (by simp [isFst, *]) (by simp [*])⟩, ⟨HG4.out⟩⟩
              · by_cases o3 : co = 3
                · subst o3
                  by_cases a0 : ac = 0
                  · subst a0
                    by_cases v1 : av = 1
                    · subst v1
                      go_wp2_with fail
                      go_roundg (gk - 1)
                      case measure => have := hP'.out; omega
                      case rel => exact ⟨k + 1, P' ++ [(⟨3, ca, cb', cc⟩, ⟨0, 1⟩)], _, _, _, rfl, rfl, rfl, rfl, ⟨step_take hP'.out.1 htk.out, by omega, by have := hP'.out; omega, by have := hP'.out; simp; omega, HCN.out.snoc (by simp [*]; first | done | rfl | omega) (by simp [isFst, *]) (by simp [*])⟩, ⟨HG4.out⟩⟩
                    ·
                      have gv1a : (av == 1) = false := beq_eq_false_iff_ne.mpr v1
                      have gv1b : decide (av = 1) = false := decide_eq_false v1
                      go_wp2_with fail
                      go_roundg (gk - 1)
                      case measure => have := hP'.out; omega
                      case rel => exact ⟨k + 1, P' ++ [(⟨3, ca, cb', cc⟩, ⟨0, av⟩)], _, _, _, rfl, rfl, rfl, rfl, ⟨step_take hP'.out.1 htk.out, by omega, by have := hP'.out; omega, by have := hP'.out; simp; omega, HCN.out.snoc (by simp [*]; first | done | rfl | omega) (by simp [isFst, *]) (by simp [*])⟩, ⟨HG4.out⟩⟩
                  · by_cases a4 : ac = 4
                    · subst a4
                      go_wp2_with fail
                      go_roundg (gk - 1)
                      case measure => have := hP'.out; omega
                      case rel => exact ⟨k + 1, P' ++ [(⟨3, ca, cb', cc⟩, ⟨4, av⟩)], _, _, _, rfl, rfl, rfl, rfl, ⟨step_take hP'.out.1 htk.out, by omega, by have := hP'.out; omega, by have := hP'.out; simp; omega, HCN.out.snoc (by simp [*]; first | done | rfl | omega) (by simp [isFst, *]) (by simp [*])⟩, ⟨HG4.out⟩⟩
                    ·
                      have ga0a : (ac == 0) = false := beq_eq_false_iff_ne.mpr a0
                      have ga0b : decide (ac = 0) = false := decide_eq_false a0
                      have ga4a : (ac == 4) = false := beq_eq_false_iff_ne.mpr a4
                      have ga4b : decide (ac = 4) = false := decide_eq_false a4
                      go_wp2_with fail
                      go_roundg (gk - 1)
                      case measure => have := hP'.out; omega
                      case rel => exact ⟨k + 1, P' ++ [(⟨3, ca, cb', cc⟩, ⟨ac, av⟩)], _, _, _, rfl, rfl, rfl, rfl, ⟨step_take hP'.out.1 htk.out, by omega, by have := hP'.out; omega, by have := hP'.out; simp; omega, HCN.out.snoc (by simp [*]; first | done | rfl | omega) (by simp [isFst, *]) (by simp [*])⟩, ⟨HG4.out⟩⟩
                ·
                  have go1a : (co == 1) = false := beq_eq_false_iff_ne.mpr o1
                  have go1b : decide (co = 1) = false := decide_eq_false o1
                  have go2a : (co == 2) = false := beq_eq_false_iff_ne.mpr o2
                  have go2b : decide (co = 2) = false := decide_eq_false o2
                  have go3a : (co == 3) = false := beq_eq_false_iff_ne.mpr o3
                  have go3b : decide (co = 3) = false := decide_eq_false o3
                  by_cases a0 : ac = 0
                  · subst a0
                    go_wp2_with fail
                    go_roundg (gk - 1)
                    case measure => have := hP'.out; omega
                    case rel => exact ⟨k + 1, P' ++ [(⟨co, ca, cb', cc⟩, ⟨0, av⟩)], _, _, _, rfl, rfl, rfl, rfl, ⟨step_take hP'.out.1 htk.out, by omega, by have := hP'.out; omega, by have := hP'.out; simp; omega, HCN.out.snoc (by simp [*]; first | done | rfl | omega) (by simp [isFst, *]) (by simp [*])⟩, ⟨HG4.out⟩⟩
                  · by_cases a4 : ac = 4
                    · subst a4
                      go_wp2_with fail
                      go_roundg (gk - 1)
                      case measure => have := hP'.out; omega
                      case rel => exact ⟨k + 1, P' ++ [(⟨co, ca, cb', cc⟩, ⟨4, av⟩)], _, _, _, rfl, rfl, rfl, rfl, ⟨step_take hP'.out.1 htk.out, by omega, by have := hP'.out; omega, by have := hP'.out; simp; omega, HCN.out.snoc (by simp [*]; first | done | rfl | omega) (by simp [isFst, *]) (by simp [*])⟩, ⟨HG4.out⟩⟩
                    ·
                      have ga0a : (ac == 0) = false := beq_eq_false_iff_ne.mpr a0
                      have ga0b : decide (ac = 0) = false := decide_eq_false a0
                      have ga4a : (ac == 4) = false := beq_eq_false_iff_ne.mpr a4
                      have ga4b : decide (ac = 4) = false := decide_eq_false a4
                      go_wp2_with fail
                      go_roundg (gk - 1)
                      case measure => have := hP'.out; omega
                      case rel => exact ⟨k + 1, P' ++ [(⟨co, ca, cb', cc⟩, ⟨ac, av⟩)], _, _, _, rfl, rfl, rfl, rfl, ⟨step_take hP'.out.1 htk.out, by omega, by have := hP'.out; omega, by have := hP'.out; simp; omega, HCN.out.snoc (by simp [*]; first | done | rfl | omega) (by simp [isFst, *]) (by simp [*])⟩, ⟨HG4.out⟩⟩
        · have hkl : k = l.length := by have := hP'.out; omega
          subst hkl
          have e1 : decide ((l.length : Int) < (l.length : Int)) = false := decide_eq_false (by omega)
          have hol := HLO.out
          go_wp2_with fail
          go_roundg (scripts.length - i)
          case measure => have := hP.out; omega
          case rel => exact ⟨i + 1, P', _, _, _, rfl, rfl, rfl, rfl, ⟨by rw [HPRE.out, hP'.out.1, List.take_of_length_le (by rw [List.length_zip]; omega)], by omega, by omega, by have := hP'.out; omega, hP'.out.2.2.2.2⟩, ⟨HG2.out.trans HG3.out⟩⟩
    · have hil : i = scripts.length := by have := hP.out; omega
      subst hil
      have d1 : decide ((scripts.length : Int) < (scripts.length : Int)) = false := decide_eq_false (by omega)
      have hCn := hP.out.2.2.2.2
      have hP1 : P = pairsOf scripts outs := by
        rw [hP.out.1]
        unfold pairsOf
        rw [List.take_of_length_le (by simp; omega)]
      have hy9 : y9 = I := by rw [hCn.ins, hP1]; exact HI.out
      have hy10 : (y10 : Int) ≤ S := by rw [hCn.fst, hP1]; exact HF.out
      have hy : (y10 : Int) = S ∨ tb = true := by
        rcases HF2.out with h | ⟨p, hp, h⟩
        · left; rw [hCn.fst, hP1]; exact h
        · right
          rw [hCn.st, hP1]
          exact List.any_eq_true.2 ⟨p, hp, decide_eq_true h⟩
      subst hy9
      have k1 : decide ((y10 : Int) ≤ S) = true := decide_eq_true hy10
      have HGE : Hid (Grown w wr) := HG.out
      clear hCn hP1
      by_cases hE : (y10 : Int) = S
      · have k2 : ((y10 : Int) == S) = true := beq_iff_eq.mpr hE
        have k3 : decide ((y10 : Int) = S) = true := decide_eq_true hE
        clear hE hy hy10
        go_wp2_with fail
        go_ret
        exact ⟨rfl, HGE.out⟩
      · have k2 : ((y10 : Int) == S) = false := beq_eq_false_iff_ne.mpr hE
        have k3 : decide ((y10 : Int) = S) = false := decide_eq_false hE
        have k4 : tb = true := hy.resolve_left hE
        subst k4
        clear hE hy hy10
        go_wp2_with fail
        go_ret
        exact ⟨rfl, HGE.out⟩
end Go.Proofs.Ytoabkcalphpkhaa

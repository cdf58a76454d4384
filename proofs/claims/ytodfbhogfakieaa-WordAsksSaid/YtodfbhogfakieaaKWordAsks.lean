/- The law WordAsks, walked: where the functions tell what the document's answer tells, it answers true. -/
import Derived.Test.YtodfbhogfakieaaJWordAsks
namespace Go.Proofs.Ytodfbhogfakieaa.PWordAsks
open Go.RowKit Go.Proofs.YtodfbhogfakieaaW.PrintWords Go.Proofs.YtodfbhogfakieaaW.PrintLast Go.Proofs.YtodfbhogfakieaaW.PrintMore
set_option linter.unusedVariables false
set_option linter.unusedSimpArgs false
theorem info3 : (Try.prog.info? 3).map (fun i => (i.zero, i.size, i.bytes)) = some (some (.int .i64 0), 1, 8) := by kernel_rfl

theorem alloc_at (w : World) (o : Obj) : (w.alloc o).heap[w.heap.size]? = some o := by show (w.heap.push o)[w.heap.size]? = some o; exact Array.getElem?_push_size
theorem alloc_size (w : World) (o : Obj) : w.heap.size < (w.alloc o).heap.size := by show w.heap.size < (w.heap.push o).size; rw [Array.size_push]; omega

theorem flat_snoc (l : List S26) (f : S26) : flat (l ++ [f]) = flat l ++ [.int .i64 f.f0, .int .i64 f.f1] := by
  induction l with
  | nil => rfl
  | cons y l ih => simp only [List.cons_append, flat, ih]
theorem made26 {w : World} {base : Nat} {ok : Nat → Prop} {v : Value} {n : Nat} (h : Kd.R k26 26 w base ok v (List.replicate ((n : Int) + 1).toNat z26)) : ∃ g cap cur, v = .slice (some ⟨g, 0, none⟩) (n + 1) cap ∧ base ≤ g ∧ w.heap[g]? = some (.cells cur 26 (0, 0)) ∧ n + 1 ≤ cap ∧ cur.size = cap * 2 := by
  obtain ⟨inner, ho⟩ := Kd.R_own h
  have e : (List.replicate ((n : Int) + 1).toNat z26).length = n + 1 := by rw [List.length_replicate]; omega
  rw [e] at ho
  rcases ho.2 with ⟨_, h0⟩ | ⟨g, cap, cur, rfl, hb, hh, hnc, _, hcs, _⟩
  · omega
  · exact ⟨g, cap, cur, rfl, hb, hh, hnc, hcs⟩

set_option maxRecDepth 100000 in
theorem law_walk (k : Nat) (x at_ bits v : Int) (A : Option Addr) (n c : Nat) (l : List S26) (hnl : l.length = n) (hc : n ≤ c) (hbig : (n + 1) * 16 ≤ 281474976710656) (w : World) (hl : Kd.C k26 w A n l) (a : Bool) (b d : Int) (e : Int)
    (h0 : butlerlaw01_awake.f k = some true) (h1 : word_Right.f k l = some a) (h2 : word_Get.f k x at_ bits = some b) (h3 : word_Put.f k x at_ bits v = some (d, e))
    (h4 : butlerref01_Right.f k l = some a) (h5 : butlerref01_Get.f k x at_ bits = some b) (h6 : butlerref01_Put.f k x at_ bits v = some (d, e)) :
    Calls Try.prog 4 #[.int .i64 x, .agg #[.int .i64 at_, .int .i64 bits], .int .i64 v, .slice A n c] w fun e w' => e = .returned (.bool true) ∧ Below w.heap.size w w' := by
  have hu26 := Try.underlying26
  have hu27 := Try.underlying27
  have HB := Aside0.mk (Below.refl w.heap.size w)
  have HL := Aside0.mk hl
  have A0 := Aside0.mk h0
  have A1 := Aside0.mk h1
  have A2 := Aside0.mk h2
  have A3 := Aside0.mk h3
  have A4 := Aside0.mk h4
  have A5 := Aside0.mk h5
  have A6 := Aside0.mk h6
  clear h0 h1 h2 h3 h4 h5 h6 hl
  have wn : wrap64 ((n : Int) + 1) = (n : Int) + 1 := by unfold wrap64; omega
  go_enter Try.func4, Try.ntmps4
  go_wp2_with fail
  have HF : (w.alloc (Obj.cells #[Value.int IntKind.i64 at_, Value.int IntKind.i64 bits] 26)).heap[w.heap.size]? = some (.cells #[.int .i64 at_, .int .i64 bits] 26 (0, 0)) := alloc_at w _
  have hlt : w.heap.size < (w.alloc (Obj.cells #[Value.int IntKind.i64 at_, Value.int IntKind.i64 bits] 26)).heap.size := alloc_size w _
  have HBa : Below w.heap.size w (w.alloc (Obj.cells #[Value.int IntKind.i64 at_, Value.int IntKind.i64 bits] 26)) := below_alloc (Below.refl _ _) _
  revert HF hlt HBa
  generalize w.alloc (Obj.cells #[Value.int IntKind.i64 at_, Value.int IntKind.i64 bits] 26) = wa
  intro HF hlt HBa
  refine (butlerlaw01_awake.calls k true _ A0.out).mono ?_
  rintro e1 w1 ⟨rfl, hb⟩
  replace HB := Aside0.mk (below_step HBa hb)
  replace HF := Aside0.mk ((hb.block _ hlt).trans HF)
  clear hb hlt HBa
  have HM := Aside0.mk (Below.refl w1.heap.size w1)
  go_wp2_with (first
    | ((with_reducible refine gate_dst (N := 25) rfl ?_); refine Kd.R_make k26 w1.heap.size 26 rfl (N := 25) rfl 27 _ _ rfl ((n : Int) + 1) (by show Value.int .i64 _ = _; congr 1) (by show Value.int .i64 _ = _; congr 1) Try.underlying27 _ 16 info26 rfl (by decide) (by decide) z26 (ok := fun _ => True) (okp := fun _ => True) (k26_mkM _ _ _ z26) (fun _ hk => hk) trivial (by omega) (by omega) HM.out HM.out.size ?_; intro v25 w2 hr hb hg hnew; clear hg hnew; obtain ⟨g, cap, cur, rfl, hgb, HG, hnc, hcs⟩ := made26 hr; clear hr HM; have HM := Aside0.mk hb; clear hb; have HO := Aside0.mk HG; clear HG)
    | ((with_reducible refine gate_builtin (b := .copy) rfl ?_); refine wp_copy26 rfl (.tmp 26) (.tmp 27) rfl g cap n c A l hnl rfl rfl cur HO.out (by omega) (Kd.C_below HL.out (below_step HB.out HM.out)) HM.out hgb ?_; intro w3 cur3 hg3 hs3 hl3 hb3; clear HM HO; have HM := Aside0.mk hb3; clear hb3; have HO := Aside0.mk hg3; clear hg3; have hc3 := Aside0.mk hl3; clear hl3)
    | ((with_reducible refine gate_store (t := 26) (p := 33) rfl ?_); refine wp_last26 rfl rfl (.tmp 33) (.tmp 32) rfl g n l hnl ⟨-7, -7⟩ (by rfl) (by rfl) cur3 HO.out (by omega) hc3.out HM.out hgb ?_; intro w4 cur4 R4 hg4 hl4 hb4; clear HM HO hc3; have HM := Aside0.mk hb4; clear hb4; have HO := Aside0.mk hg4; clear hg4; have hc4 := Aside0.mk hl4; clear hl4))
  replace HB := Aside0.mk (below_step HB.out HM.out)
  replace HF := Aside0.mk ((HM.out.block _ (blk_lt HF.out)).trans HF.out)
  have hfl : flat (l ++ [⟨-7, -7⟩]) ++ R4 = flat l ++ ([.int .i64 (-7), .int .i64 (-7)] ++ R4) := by
    rw [flat_snoc, List.append_assoc]
  have hc5 := Aside0.mk (hc4.out.trans hfl)
  clear HM hc4 hfl
  have hmax := HL.out.2.1
  subst hnl
  refine (word_Right.calls k _ cap l a _ (C_block HO.out hc5.out hmax) (by omega) A1.out).mono ?_
  rintro e5 w5 ⟨rfl, hb⟩
  replace HB := Aside0.mk (below_step HB.out hb)
  replace HF := Aside0.mk ((hb.block _ (blk_lt HF.out)).trans HF.out)
  replace HO := Aside0.mk ((hb.block _ (blk_lt HO.out)).trans HO.out)
  clear hb
  have f0 : w5.cell? ⟨w.heap.size, 0, none⟩ = some (.int .i64 at_) := by rw [cell_of_row _ _ _ _ _ _ HF.out]; rfl
  have f1 : w5.cell? ⟨w.heap.size, 1, none⟩ = some (.int .i64 bits) := by rw [cell_of_row _ _ _ _ _ _ HF.out]; rfl
  go_wp2_with fail
  clear f0 f1
  refine (word_Get.calls k x at_ bits b _ A2.out).mono ?_
  rintro e6 w6 ⟨rfl, hb⟩
  replace HB := Aside0.mk (below_step HB.out hb)
  replace HF := Aside0.mk ((hb.block _ (blk_lt HF.out)).trans HF.out)
  replace HO := Aside0.mk ((hb.block _ (blk_lt HO.out)).trans HO.out)
  clear hb
  have f0 : w6.cell? ⟨w.heap.size, 0, none⟩ = some (.int .i64 at_) := by rw [cell_of_row _ _ _ _ _ _ HF.out]; rfl
  have f1 : w6.cell? ⟨w.heap.size, 1, none⟩ = some (.int .i64 bits) := by rw [cell_of_row _ _ _ _ _ _ HF.out]; rfl
  go_wp2_with fail
  clear f0 f1
  refine (word_Put.calls k x at_ bits v d e _ A3.out).mono ?_
  rintro e7 w7 ⟨rfl, hb⟩
  replace HB := Aside0.mk (below_step HB.out hb)
  replace HF := Aside0.mk ((hb.block _ (blk_lt HF.out)).trans HF.out)
  replace HO := Aside0.mk ((hb.block _ (blk_lt HO.out)).trans HO.out)
  clear hb
  go_wp2_with fail
  refine (word_Right.calls k _ cap l a _ (C_block HO.out hc5.out hmax) (by omega) A1.out).mono ?_
  rintro e8 w8 ⟨rfl, hb⟩
  replace HB := Aside0.mk (below_step HB.out hb)
  replace HF := Aside0.mk ((hb.block _ (blk_lt HF.out)).trans HF.out)
  replace HO := Aside0.mk ((hb.block _ (blk_lt HO.out)).trans HO.out)
  clear hb
  go_wp2_with fail
  refine (butlerref01_Right.calls k A c l a _ (Kd.C_below HL.out HB.out) hc A4.out).mono ?_
  rintro e9 w9 ⟨rfl, hb⟩
  replace HB := Aside0.mk (below_step HB.out hb)
  replace HF := Aside0.mk ((hb.block _ (blk_lt HF.out)).trans HF.out)
  replace HO := Aside0.mk ((hb.block _ (blk_lt HO.out)).trans HO.out)
  clear hb
  have f0 : w9.cell? ⟨w.heap.size, 0, none⟩ = some (.int .i64 at_) := by rw [cell_of_row _ _ _ _ _ _ HF.out]; rfl
  have f1 : w9.cell? ⟨w.heap.size, 1, none⟩ = some (.int .i64 bits) := by rw [cell_of_row _ _ _ _ _ _ HF.out]; rfl
  go_wp2_with fail
  clear f0 f1
  refine (butlerref01_Get.calls k x at_ bits b _ A5.out).mono ?_
  rintro e10 w10 ⟨rfl, hb⟩
  replace HB := Aside0.mk (below_step HB.out hb)
  replace HF := Aside0.mk ((hb.block _ (blk_lt HF.out)).trans HF.out)
  replace HO := Aside0.mk ((hb.block _ (blk_lt HO.out)).trans HO.out)
  clear hb
  have f0 : w10.cell? ⟨w.heap.size, 0, none⟩ = some (.int .i64 at_) := by rw [cell_of_row _ _ _ _ _ _ HF.out]; rfl
  have f1 : w10.cell? ⟨w.heap.size, 1, none⟩ = some (.int .i64 bits) := by rw [cell_of_row _ _ _ _ _ _ HF.out]; rfl
  go_wp2_with fail
  clear f0 f1
  refine (butlerref01_Put.calls k x at_ bits v d e _ A6.out).mono ?_
  rintro e11 w11 ⟨rfl, hb⟩
  replace HB := Aside0.mk (below_step HB.out hb)
  replace HF := Aside0.mk ((hb.block _ (blk_lt HF.out)).trans HF.out)
  replace HO := Aside0.mk ((hb.block _ (blk_lt HO.out)).trans HO.out)
  clear hb
  go_wp2_with fail
  go_loopg [20] l.length (fun kq v20 w' => ∃ (i : Int), v20 = .int .i64 i ∧ Aside0 (0 ≤ i ∧ i + kq = l.length) ∧ Aside0 (Below w.heap.size w w') ∧ Aside0 (w'.heap[g]? = some (.cells cur4 26 (0, 0))))
  case atStart => exact ⟨0, rfl, ⟨by omega⟩, HB, HO⟩
  case round =>
    clear HB HO HF
    obtain ⟨i, rfl, hi, HB, HO⟩ := hrel
    have hi0 := hi.out.1
    by_cases hlt : i < (l.length : Int)
    · obtain ⟨ad, rfl, hx0, hx1⟩ := at_T26 HL.out i hi0 hlt
      have hx0 := (HB.out.cell (World.block_lt_of_cell? w _ hx0)).trans hx0
      have hx1 := (HB.out.cell (World.block_lt_of_cell? w _ hx1)).trans hx1
      obtain ⟨ad', hg', hy0, hy1⟩ := at_T26 (C_block HO.out hc5.out hmax) i hi0 hlt
      injection hg' with hg'
      subst hg'
      simp only [add_plain] at hy0 hy1
      have d1 : decide (i < (l.length : Int)) = true := decide_eq_true hlt
      have d2 : decide (0 ≤ i) = true := decide_eq_true hi0
      have d3 : decide (i < ((l.length : Int) + 1)) = true := decide_eq_true (by omega)
      go_wp2_with fail
      go_quiet (fail)
      go_wp2_with fail
      go_roundg (gk - 1)
      case measure => have := hi.out; omega
      case rel => exact ⟨i + 1, rfl, ⟨by have := hi.out; omega⟩, ⟨pw_below_drewN HB.out _⟩, HO⟩
    · have d1 : decide (i < (l.length : Int)) = false := decide_eq_false hlt
      have hz : wr.cell? ⟨g, l.length * 2, none⟩ = some (.int .i64 (-7)) := by
        rw [cell_of_row _ _ _ _ _ _ HO.out, ← Array.getElem?_toList, hc5.out, List.getElem?_append_right (by rw [flat_len]; omega), flat_len, show l.length * 2 - 2 * l.length = 0 by omega]
        rfl
      go_wp2_with fail
      go_ret
      exact ⟨rfl, HB.out⟩
end Go.Proofs.Ytodfbhogfakieaa.PWordAsks

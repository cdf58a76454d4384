/- Merged: GatePlay. -/
import Derived.Test.YtoabkcalphpkhaaN18
import Derived.Test.YtoabkcalphpkhaaN30
import Derived.Test.YtoabkcalphpkhaaN24
/- gate.New, gate.Play. (Printed by gen_gateplay.py.) -/
namespace Go.Proofs.Ytoabkcalphpkhaa
open Go Go.Conc Go.RowKit
open Go.Proofs.YtoabkcalphpkhaaW.PrintWords
set_option linter.unusedVariables false
set_option linter.unusedSimpArgs false
set_option linter.unusedSectionVars false
set_option maxRecDepth 100000

section
variable {C : Ctx Try.prog} {u : World} {fr : Frame} {cs : List Frame} {W : Nat}
/-- gate.New, of a world. -/
theorem gateNew68 (hfz : C.fz = true) {back : Nat} {sv cv : Value} {sched : List Int} (hf : Fresh0 W back sv cv sched 0 [] [] u)
    (hn : ∀ b gb cv' u', Fresh0 W back sv cv' sched 1 [b] [0] u' → Keep0 W cv u u' → (∀ k, cv'.ownBlock = some k → cv.ownBlock = some k ∨ u.heap.size ≤ k) → u.heap.size ≤ b → u.heap.size ≤ gb → u'.heap[gb]? = some (.cells #[ptr b] 137 (0, 0)) → Wn C (fr.finish (ptr gb)) cs u') :
    Wn C (Frame.enter Try.prog 68 #[ptr W] .normal) (fr :: cs) u := by
  refine Wn.body Try.func68 rfl ?_
  simp only [Try.ntmps68, List.size_toArray, List.length_cons, List.length_nil, Nat.reduceAdd, Nat.reduceSub, Array.replicate_succ, Array.replicate_zero, List.push_toArray, List.append_toArray, List.nil_append, List.cons_append]
  refine Wn.seq (Wn.reg (by simp [base]) (by rw [hfz]; kernel_rfl) ?_)
  go_wp2_with fail
  refine ⟨rfl, ?_⟩
  refine Wn.seq (Wn.open ?_)
  refine Wn.span1 0 1 5 (by simp [base]) (by decide) (by decide) (by rw [hfz]; kernel_rfl) ?_
  simp only [List.take, List.drop]
  go_wp2_with fail
  refine ⟨rfl, ?_⟩
  refine Wn.callC 1 4 3 rfl (by simp [base]) rfl rfl rfl (by kernel_rfl) ?_
  refine cellNew37 (cb := []) (vals := []) hfz hf (by decide) (v := 0) (by unfold In64; omega) ?_
  intro b cv' u1 hf1 hk1 hown hbN
  have hf1 : Fresh0 W back sv cv' sched 1 [b] [0] u1 := hf1
  rw [Frame.finish_at]
  have HF : Hid _ := hf1
  have HK : Hid _ := hk1
  have HO : Hid _ := hown
  have HN : Hid _ := hn
  have HB : Hid _ := hbN
  clear hf hf1 hk1 hown hn hbN
  refine Wn.span1 2 3 3 (by simp [base]) (by decide) (by decide) (by rw [hfz]; kernel_rfl) ?_
  simp only [List.take, List.drop]
  go_wp2_with fail
  refine ⟨rfl, ?_⟩
  have hg := Grown.alloc u1 (.cells #[ptr b] 137)
  have hb : (u1.alloc (.cells #[ptr b] 137)).heap[u1.heap.size]? = some (.cells #[ptr b] 137 (0, 0)) := heap_alloc_new _ _
  generalize u1.alloc (.cells #[ptr b] 137) = u2 at hg hb ⊢
  refine Wn.range_end (n := 0) (Wn.ret ?_)
  refine Wn.back rfl rfl Try.func68 (results_tmp rfl _ _ _) ?_
  exact HN.out b _ cv' u2 (HF.out.grown hg) (HK.out.trans (Keep0.of_grown (cv := cv') hg) HO.out) HO.out HB.out HK.out.size hb
/-- .. of no world. -/
theorem gateNew68_nil (hfz : C.fz = true) (hn : ∀ b gb u', u'.heap[b]? = some (.cells (cCells 0 0) 105 (0, 0)) → u'.heap[gb]? = some (.cells #[ptr b] 137 (0, 0)) → Grown u u' → u.heap.size ≤ b → u.heap.size ≤ gb → Wn C (fr.finish (ptr gb)) cs u') :
    Wn C (Frame.enter Try.prog 68 #[.pointer none] .normal) (fr :: cs) u := by
  refine Wn.body Try.func68 rfl ?_
  simp only [Try.ntmps68, List.size_toArray, List.length_cons, List.length_nil, Nat.reduceAdd, Nat.reduceSub, Array.replicate_succ, Array.replicate_zero, List.push_toArray, List.append_toArray, List.nil_append, List.cons_append]
  refine Wn.seq (Wn.reg (by simp [base]) (by rw [hfz]; kernel_rfl) ?_)
  go_wp2_with fail
  refine ⟨rfl, ?_⟩
  refine Wn.seq (Wn.open ?_)
  refine Wn.span1 0 1 5 (by simp [base]) (by decide) (by decide) (by rw [hfz]; kernel_rfl) ?_
  simp only [List.take, List.drop]
  go_wp2_with fail
  refine ⟨rfl, ?_⟩
  refine Wn.callC 1 4 3 rfl (by simp [base]) rfl rfl rfl (by kernel_rfl) ?_
  refine cellNew37_nil hfz ?_
  intro b u1 hb hg hbN
  rw [Frame.finish_at]
  have HB : Hid _ := hb
  have HG : Hid _ := hg
  have HN : Hid _ := hbN
  have hn : Hid _ := hn
  clear hb hg hbN
  refine Wn.span1 2 3 3 (by simp [base]) (by decide) (by decide) (by rw [hfz]; kernel_rfl) ?_
  simp only [List.take, List.drop]
  go_wp2_with fail
  refine ⟨rfl, ?_⟩
  have hg := Grown.alloc u1 (.cells #[ptr b] 137)
  have hlb : (u1.alloc (.cells #[ptr b] 137)).heap[u1.heap.size]? = some (.cells #[ptr b] 137 (0, 0)) := heap_alloc_new _ _
  generalize u1.alloc (.cells #[ptr b] 137) = u2 at hg hlb ⊢
  refine Wn.range_end (n := 0) (Wn.ret ?_)
  refine Wn.back rfl rfl Try.func68 (results_tmp rfl _ _ _) ?_
  exact hn.out b _ u2 ((hg.blk _ (blk_lt HB.out)).trans HB.out) hlb (HG.out.trans hg) HN.out HG.out.size
end
theorem gate_do {L : Lay} {i T b gb bx f : Nat} (hcn : L.cn = 1) (hcb : L.cb = [b]) (hl : L.ro gb = some (.cells #[ptr b] 137 (0, 0))) (hx : L.ro bx = some (.cells #[ptr gb] 111 (0, 0))) : DoOK (worldMode L i T) 72 #[ptr bx] (doGate f) := by
  intro c k F u C fr cs hin h hn
  refine do72 (M := worldMode L i T) (gb := gb) (bx := bx) h (by show 0 < L.cn; omega) ?_ hx hn
  show L.ro gb = some (.cells #[ptr (L.cb.getD 0 0)] 137 (0, 0))
  rw [hcb]; exact hl

section
variable {Post : Value → World → Prop} {N : Nat} {u : World} {fr : Frame} {cs : List Frame} {W back : Nat} {sv : Value} {sched : List Int}
set_option maxHeartbeats 2000000 in
theorem gatePlay46 {K f : Nat} {scripts : List (List Cal)} {SA : Option Addr} {scp : Nat} {fin : Sys × List Park} (hN : 0 < N) (hf : Fresh0 W back sv (.slice none 0 0) sched 0 [] [] u) (hsc : ScrW W u SA scripts) (hmx : scripts.length ≤ 9223372036854775806) (hin : ∀ l ∈ scripts, ∀ c ∈ l, CalIn c)
    (hrun : mayOf scripts false = 0 → spawn sched K (scripts.map fun l => oneP (doGate f) 0 l []) ⟨0, -1, [0], [0], [], false⟩ [] = some fin ∧ fin.1.trace.length ≤ roomB)
    (hbad : mayOf scripts false ≠ 0 → Wn (ctxP Post N S0 list0) (fr.finish (.tuple #[.slice none 0 0, num (mayOf scripts false)])) cs u)
    (hn : mayOf scripts false = 0 → ∀ v u', Played W back fin u u' v → Wn (ctxP Post (N + scripts.length) S0 list0) (fr.finish (.tuple #[v, num 0])) cs u') :
    Wn (ctxP Post N S0 list0) (Frame.enter Try.prog 46 #[ptr W, .slice SA scripts.length scp] .normal) (fr :: cs) u := by
  have hfz : (ctxP Post N S0 list0).fz = true := rfl
  have hrun : Hid _ := hrun
  have hbad : Hid _ := hbad
  have hn : Hid _ := hn
  refine Wn.body Try.func46 rfl ?_
  simp only [Try.ntmps46, List.size_toArray, List.length_cons, List.length_nil, Nat.reduceAdd, Nat.reduceSub, Array.replicate_succ, Array.replicate_zero, List.push_toArray, List.append_toArray, List.nil_append, List.cons_append]
  refine Wn.seq (Wn.reg (by simp [base]) (by rw [hfz]; kernel_rfl) ?_)
  go_wp2_with fail
  refine ⟨rfl, ?_⟩
  refine Wn.seq (Wn.seq (Wn.open ?_))
  refine Wn.span1 0 2 4 (by simp [base]) (by decide) (by decide) (by rw [hfz]; kernel_rfl) ?_
  simp only [List.take, List.drop]
  go_wp2_with fail
  refine ⟨rfl, ?_⟩
  refine Wn.callC 2 2 1 rfl (by simp [base]) rfl rfl rfl (by kernel_rfl) ?_
  refine may49 hfz hmx hsc.lists ((blk_cell hf.w 7).trans rfl) ?_
  rw [Frame.finish_at]
  refine Wn.span1 3 1 1 (by simp [base]) (by decide) (by decide) (by rw [hfz]; kernel_rfl) ?_
  simp only [List.take, List.drop]
  go_wp2_with fail
  refine ⟨rfl, ?_⟩
  refine Wn.range_end ?_
  by_cases hm : mayOf scripts false = 0
  · have hrun := hrun.out hm
    have hn := hn.out hm
    have hrun : Hid _ := hrun
    have hn : Hid _ := hn
    have HM : Hid _ := hm
    rw [hm]
    clear hbad hm
    refine Wn.seq (Wn.reg (by simp [base]) (by rw [hfz]; kernel_rfl) ?_)
    go_wp2_with fail
    refine ⟨rfl, ?_⟩
    refine Wn.cond rfl ?_
    simp only [Bool.false_eq_true, if_false]
    refine Wn.skip (Wn.seq (Wn.open ?_))
    refine Wn.span1 0 1 4 (by simp [base]) (by decide) (by decide) (by rw [hfz]; kernel_rfl) ?_
    simp only [List.take, List.drop]
    go_wp2_with fail
    refine ⟨rfl, ?_⟩
    refine Wn.callC 1 3 2 rfl (by simp [base]) rfl rfl rfl (by kernel_rfl) ?_
    refine gateNew68 hfz hf ?_
    intro b gb cv u1 hf1 hk1 hown hbN hgbN hgb
    rw [Frame.finish_at]
    have HF : Hid _ := hf1
    have HK : Hid _ := hk1
    have HO : Hid _ := hown
    have HB : Hid _ := hbN
    have HL : Hid _ := hgb
    have HSC : Hid (ScrW W u SA scripts) := hsc
    clear hf hf1 hk1 hown hbN hgb hsc
    refine Wn.span1 2 2 2 (by simp [base]) (by decide) (by decide) (by rw [hfz]; kernel_rfl) ?_
    simp only [List.take, List.drop]
    go_wp2_with fail
    refine ⟨rfl, ?_⟩
    have hg := Grown.alloc u1 (.cells #[ptr gb] 111)
    have hbx : (u1.alloc (.cells #[ptr gb] 111)).heap[u1.heap.size]? = some (.cells #[ptr gb] 111 (0, 0)) := heap_alloc_new _ _
    generalize u1.alloc (.cells #[ptr gb] 111) = u2 at hg hbx ⊢
    generalize u1.heap.size = bx at hbx ⊢
    refine Wn.range_end (n := 0) ?_
    refine Wn.seq (Wn.open ?_)
    refine Wn.span1 0 3 6 (by simp [base]) (by decide) (by decide) (by rw [hfz]; kernel_rfl) ?_
    simp only [List.take, List.drop]
    go_wp2_with fail
    refine ⟨rfl, ?_⟩
    refine Wn.callC 3 3 2 rfl (by simp [base]) rfl rfl rfl (by kernel_rfl) ?_
    have hgb := (hg.blk _ (blk_lt HL.out)).trans HL.out
    refine play_run (cb := [b]) (vals := [0]) (fid := 72) (caps := #[ptr bx]) (doP := doGate f) (fin := fin) (K := K) hN HSC.out HM.out hin (by kernel_rfl) (Nat.zero_lt_one) (HF.out.grown hg) (HK.out.trans (Keep0.of_grown (cv := cv) hg) HO.out) (fun k hk => (HO.out k hk).elim (fun h => by cases h) fun h => h) (fun c hc => by rw [List.mem_singleton] at hc; rw [hc]; exact HB.out) (fun L i T h1 h2 h3 => gate_do (b := b) (gb := gb) (bx := bx) h1 h2 (h3 _ _ _ _ hgb (by decide) (by decide) (by decide)) (h3 _ _ _ _ hbx (by decide) (by decide) (by decide))) hrun.out ?_
    intro out u' hfl hpl
    have HN := hn.out _ u' hpl
    have HN : Hid _ := HN
    have hfz2 : (ctxP Post (N + scripts.length) S0 list0).fz = true := rfl
    rw [Frame.finish_at]
    clear hpl hfl hgb hbx hg
    refine Wn.span1 4 2 2 (by simp [base]) (by decide) (by decide) (by rw [hfz2]; kernel_rfl) ?_
    simp only [List.take, List.drop]
    go_wp2_with fail
    refine ⟨rfl, ?_⟩
    refine Wn.range_end (n := 0) (Wn.ret ?_)
    refine Wn.back rfl rfl Try.func46 (results_list (rs := [.tmp 4, .tmp 5]) rfl (by simp) (.tmp (.tmp .nil))) ?_
    exact HN.out
  · have hbad := hbad.out hm
    have hbad : Hid _ := hbad
    obtain ⟨e, he⟩ : ∃ e, Hid (e = mayOf scripts false) := ⟨_, rfl⟩
    rw [← he.out] at hm hbad ⊢
    have d1 : (e != 0) = true := bne_iff_ne.mpr hm
    have d2 : decide (e = 0) = false := decide_eq_false hm
    have d3 : (e == 0) = false := beq_eq_false_iff_ne.mpr hm
    clear hrun hn he
    refine Wn.seq (Wn.reg (by simp [base]) (by rw [hfz]; kernel_rfl) ?_)
    go_wp2_with fail
    refine ⟨rfl, ?_⟩
    refine Wn.cond rfl ?_
    simp only [if_true]
    refine Wn.seq (Wn.reg (by simp [base]) (by rw [hfz]; kernel_rfl) ?_)
    go_wp2_with fail
    refine ⟨rfl, ?_⟩
    refine Wn.ret ?_
    refine Wn.back rfl rfl Try.func46 (results_list (rs := [.tmp 4, .tmp 5]) rfl (by simp) (.tmp (.tmp .nil))) ?_
    exact hbad.out
end
end Go.Proofs.Ytoabkcalphpkhaa

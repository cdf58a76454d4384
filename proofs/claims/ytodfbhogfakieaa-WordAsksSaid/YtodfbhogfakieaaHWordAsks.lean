/- What the document's Get and Right answer, said in bits; for the law WordAsks. -/
import Derived.Test.YtodfbhogfakieaaGWordAsks
namespace Go.Proofs.Ytodfbhogfakieaa.FWordAsks
open Go.RowKit Go.Proofs.YtodfbhogfakieaaW.PrintWords Go.Proofs.YtodfbhogfakieaaW.PrintLast Go.Proofs.YtodfbhogfakieaaW.PrintMore Go.Proofs.Ytodfbhogfakieaa.Math Go.Proofs.Ytodfbhogfakieaa.PWordAsks
set_option linter.unusedVariables false
set_option linter.unusedSimpArgs false

theorem rget_loop {x at_ bits : Int} (hm : May at_ bits) : ∀ (d : Nat) (m y : Int), -1 ≤ m → m ≤ bits - 1 → (m + 1).toNat = d → 0 ≤ y → y < 2 ^ (bits - 1 - m).toNat → (∀ n, n < 64 → bit y n = (decide ((n : Int) < bits - 1 - m) && bit x (at_.toNat + n + (m + 1).toNat))) →
    ∃ r, GetIs x at_ bits r ∧ Tells (fun k => butlerref01_Get.l0 k x y m at_ bits) r := by
  have hm' := hm
  unfold May at hm'
  intro d
  induction d with
  | zero =>
    intro m y h0 h1 hd hy0 hy hbits
    have e : m = -1 := by omega
    subst e
    have hp : (2 : Int) ^ (bits - 1 - -1).toNat ≤ 2 ^ 62 := by
      have : (2 : Nat) ^ (bits - 1 - -1).toNat ≤ 2 ^ 62 := Nat.pow_le_pow_right (by decide) (by omega)
      exact_mod_cast this
    refine ⟨y, ⟨by unfold I64; omega, fun n hn => ?_⟩, Tells.step (g := fun _ => some y) (fun k => by simp only [butlerref01_Get.l0]; rw [if_neg (by omega)]) (Tells.of fun _ => rfl)⟩
    rw [hbits n hn, show bits - 1 - -1 = bits by omega]
    rfl
  | succ d ih =>
    intro m y h0 h1 hd hy0 hy hbits
    have hm0 : 0 ≤ m := by omega
    have hp : (2 : Int) ^ (bits - 1 - m).toNat ≤ 2 ^ 61 := by
      have : (2 : Nat) ^ (bits - 1 - m).toNat ≤ 2 ^ 61 := Nat.pow_le_pow_right (by decide) (by omega)
      exact_mod_cast this
    have hp2 : (2 : Int) ^ (bits - 1 - (m - 1)).toNat = 2 * 2 ^ (bits - 1 - m).toNat := by
      rw [show (bits - 1 - (m - 1)).toNat = (bits - 1 - m).toNat + 1 by omega, Int.pow_succ, Int.mul_comm]
    have wm : wrap64 (m - 1) = m - 1 := wrap64_id (by unfold I64; omega)
    have wa : wrap64 (at_ + m) = at_ + m := wrap64_id (by unfold I64; omega)
    have h01 := num_01 (bit x (at_ + m).toNat)
    have ws : wrap64 (wrap64 (2 * y) + (if bit x (at_ + m).toNat = true then 1 else 0)) = 2 * y + (if bit x (at_ + m).toNat = true then 1 else 0) := by
      rw [wrap64_id (n := 2 * y) (by unfold I64; omega), wrap64_id (by unfold I64; omega)]
    obtain ⟨r, hr, hk⟩ := ih (m - 1) (2 * y + (if bit x (at_ + m).toNat = true then 1 else 0)) (by omega) (by omega) (by omega) (by omega) (by omega) (fun n hn => by
      cases n with
      | zero =>
        rw [bit_acc0 hy0 h01, num_dec, decide_eq_true (show ((0 : Nat) : Int) < bits - 1 - (m - 1) by omega), Bool.true_and, show at_.toNat + 0 + (m - 1 + 1).toNat = (at_ + m).toNat by omega]
      | succ n =>
        rw [bit_acc hy0 h01 hn, hbits n (by omega), show at_.toNat + (n + 1) + (m - 1 + 1).toNat = at_.toNat + n + (m + 1).toNat by omega]
        by_cases h : (n : Int) < bits - 1 - m
        · rw [decide_eq_true h, decide_eq_true (show ((n + 1 : Nat) : Int) < bits - 1 - (m - 1) by omega)]
        · rw [decide_eq_false h, decide_eq_false (show ¬ ((n + 1 : Nat) : Int) < bits - 1 - (m - 1) by omega)])
    refine ⟨r, hr, Tells.step (fun k => ?_) hk⟩
    simp only [butlerref01_Get.l0]
    rw [if_pos (by omega), wa, rbit_is x (by omega) (by omega), Option.bind_some, ws, wm]
theorem rget_may (x : Int) {at_ bits : Int} (hm : May at_ bits) : ∃ r, GetIs x at_ bits r ∧ Tells (fun k => butlerref01_Get.f k x at_ bits) r := by
  have hm' := hm
  unfold May at hm'
  obtain ⟨r, hr, hk⟩ := rget_loop (x := x) hm bits.toNat (bits - 1) 0 (by omega) (by omega) (by omega) (by omega) (by rw [show bits - 1 - (bits - 1) = 0 by omega]; decide) (fun n hn => by
    rw [bit_0, decide_eq_false (show ¬ (n : Int) < bits - 1 - (bits - 1) by omega), Bool.false_and])
  refine ⟨r, hr, Tells.congr (fun k => ?_) hk⟩
  unfold butlerref01_Get.f
  rw [rmay_is (by unfold I64; omega), wrap64_id (n := bits - 1) (by unfold I64; omega)]
  simp [hm]
theorem rget_not (x : Int) {at_ bits : Int} (hb : I64 bits) (hm : ¬ May at_ bits) : Tells (fun k => butlerref01_Get.f k x at_ bits) 0 := by
  refine Tells.of fun k => ?_
  unfold butlerref01_Get.f
  rw [rmay_is hb]
  simp [hm]

/-- The list of 64 that stands for the places used. -/
def Stands (xs : List Bool) (u : Nat → Bool) : Prop := xs.length = 64 ∧ ∀ n, n < 64 → xs.getD n false = u n
theorem Stands.set {xs : List Bool} {u : Nat → Bool} (h : Stands xs u) {p : Nat} (hp : p < 64) : Stands (xs.set p true) (fun n => u n || decide (p = n)) := by
  obtain ⟨h1, h2⟩ := h
  refine ⟨by simp [h1], fun n hn => ?_⟩
  have h3 := h2 n hn
  rw [List.getD_eq_getElem?_getD] at h3 ⊢
  rw [List.getElem?_set]
  by_cases e : p = n
  · subst e
    simp [h1, hn]
  · rw [if_neg e, h3]
    simp [e]
theorem rright_inner {l : List S26} {i : Int} (h0i : 0 ≤ i) (hil : i < l.length) (hm : May (rd_T26 l i).f0 (rd_T26 l i).f1) : ∀ (d : Nat) (b : Int) (xs : List Bool) (u : Nat → Bool), Stands xs u → 0 ≤ b → b ≤ (rd_T26 l i).f1 → ((rd_T26 l i).f1 - b).toNat = d →
    ∀ r, (∀ xs' u', Stands xs' u' → (∀ n, n < 64 → u' n = (u n || (decide ((rd_T26 l i).f0 + b ≤ n) && decide ((n : Int) < (rd_T26 l i).f0 + (rd_T26 l i).f1)))) → Tells (fun k => butlerref01_Right.l0 k l xs' (wrap64 (i + 1))) r) →
      Tells (fun k => butlerref01_Right.l1 k l xs i ((rd_T26 l i).f0 + b)) ((List.range' b.toNat ((rd_T26 l i).f1.toNat - b.toNat)).all (fun c => !u ((rd_T26 l i).f0.toNat + c)) && r) := by
  generalize ea : (rd_T26 l i).f0 = at_ at hm ⊢
  generalize eb : (rd_T26 l i).f1 = bits at hm ⊢
  have hm' := hm
  unfold May at hm'
  intro d
  induction d with
  | zero =>
    intro b xs u hs h0 h1 hd r hr
    have e : b = bits := by omega
    subst e
    have := hr xs u hs (fun n hn => by
      by_cases h1 : at_ + b ≤ (n : Int)
      · have : ¬ (n : Int) < at_ + b := by omega
        simp [this]
      · simp [h1])
    refine Tells.step (fun k => ?_) (by simpa using this)
    simp only [butlerref01_Right.l1]
    rw [if_pos h0i, if_pos hil, ea, eb, wrap64_id (n := at_ + b) (by unfold I64; omega), if_neg (by omega)]
  | succ d ih =>
    intro b xs u hs h0 h1 hd r hr
    have hlt : b < bits := by omega
    have w1 : wrap64 (at_ + bits) = at_ + bits := wrap64_id (by unfold I64; omega)
    have w2 : wrap64 (at_ + b + 1) = at_ + (b + 1) := by rw [wrap64_id (by unfold I64; omega)]; omega
    have er : List.range' b.toNat (bits.toNat - b.toNat) = b.toNat :: List.range' (b.toNat + 1) (bits.toNat - (b + 1).toNat) := by
      rw [show bits.toNat - b.toNat = (bits.toNat - (b + 1).toNat) + 1 by omega, List.range'_succ]
    have en : (at_ + b).toNat = at_.toNat + b.toNat := by omega
    have hrd : rdOf false xs (at_ + b) = u (at_.toNat + b.toNat) := by
      unfold rdOf
      rw [en]
      exact hs.2 _ (by omega)
    by_cases hb : u (at_.toNat + b.toNat) = true
    · rw [er, List.all_cons, hb]
      simp only [Bool.not_true, Bool.false_and]
      refine Tells.step (g := fun _ => some false) (fun k => ?_) (Tells.of fun _ => rfl)
      simp only [butlerref01_Right.l1]
      rw [if_pos h0i, if_pos hil, ea, eb, w1, if_pos (by omega), if_pos (by omega), if_pos (by rw [hs.1]; omega), if_pos (hrd.trans hb)]
    · have hb' : u (at_.toNat + b.toNat) = false := by simpa using hb
      have := ih (b + 1) (xs.set (at_ + b).toNat true) (fun n => u n || decide ((at_ + b).toNat = n)) (hs.set (by omega)) (by omega) (by omega) (by omega) r (fun xs' u' hs' hu' => hr xs' u' hs' (fun n hn => by
        rw [hu' n hn]
        by_cases e : (at_ + b).toNat = n
        · subst e
          rw [decide_eq_true rfl, decide_eq_true (show at_ + b ≤ (((at_ + b).toNat : Nat) : Int) by omega), decide_eq_true (show (((at_ + b).toNat : Nat) : Int) < at_ + bits by omega), Bool.or_true, Bool.true_or, Bool.and_true, Bool.or_true]
        · by_cases h' : at_ + (b + 1) ≤ (n : Int)
          · have : at_ + b ≤ (n : Int) := by omega
            simp [h', this, e]
          · have : ¬ at_ + b ≤ (n : Int) := by omega
            simp [h', this, e]))
      rw [er, List.all_cons, hb']
      have ec : (List.range' (b.toNat + 1) (bits.toNat - (b + 1).toNat)).all (fun c => !u (at_.toNat + c)) = (List.range' (b + 1).toNat (bits.toNat - (b + 1).toNat)).all (fun c => !(u (at_.toNat + c) || decide ((at_ + b).toNat = at_.toNat + c))) := by
        rw [show b.toNat + 1 = (b + 1).toNat by omega]
        apply all_same
        intro c hc
        have := List.mem_range'_1.1 hc
        have : ¬ ((at_ + b).toNat = at_.toNat + c) := by omega
        simp [this]
      simp only [Bool.not_false, Bool.true_and]
      rw [ec]
      refine Tells.step (fun k => ?_) this
      simp only [butlerref01_Right.l1]
      rw [if_pos h0i, if_pos hil, ea, eb, w1, if_pos (by omega), if_pos (by omega), if_pos (by rw [hs.1]; omega), if_neg (by rw [hrd, hb']; simp), w2]
theorem rright_loop (l : List S26) (hl : l.length ≤ 1152921504606846976) (hw : ∀ f ∈ l, I64 f.f1) : ∀ (d i : Nat) (xs : List Bool) (u : Nat → Bool), Stands xs u → i ≤ l.length → l.length - i = d → Tells (fun k => butlerref01_Right.l0 k l xs (i : Int)) (rightFrom u (l.drop i)) := by
  intro d
  induction d with
  | zero =>
    intro i xs u hs hi hd
    have e : i = l.length := by omega
    subst e
    rw [List.drop_length]
    refine Tells.step (g := fun _ => some true) (fun k => ?_) (Tells.of fun _ => rfl)
    simp only [butlerref01_Right.l0]
    rw [if_neg (by omega)]
  | succ d ih =>
    intro i xs u hs hi hd
    have hlt : i < l.length := by omega
    have er : rd_T26 l (i : Int) = l[i] := by
      unfold rd_T26
      simp [List.getD_eq_getElem?_getD, hlt]
    have hwf : I64 l[i].f1 := hw _ (List.getElem_mem hlt)
    have w2 : wrap64 ((i : Int) + 1) = ((i + 1 : Nat) : Int) := by rw [wrap64_id (by unfold I64; omega)]; push_cast; rfl
    rw [List.drop_eq_getElem_cons hlt]
    unfold rightFrom
    by_cases hm : May l[i].f0 l[i].f1
    · have hm' := hm
      unfold May at hm'
      have := rright_inner (l := l) (i := (i : Int)) (by omega) (by omega) (by rw [er]; exact hm) l[i].f1.toNat 0 xs u hs (by omega) (by rw [er]; omega) (by rw [er]; omega)
        (rightFrom (fun n => u n || (decide (l[i].f0 ≤ n) && decide ((n : Int) < l[i].f0 + l[i].f1))) (l.drop (i + 1))) (fun xs' u' hs' hu' => by
          have h := ih (i + 1) xs' u' hs' (by omega) (by omega)
          rw [w2]
          rw [rightFrom_congr (u' := fun n => u n || (decide (l[i].f0 ≤ n) && decide ((n : Int) < l[i].f0 + l[i].f1))) (fun n hn => by rw [hu' n hn, er, Int.add_zero])] at h
          exact h)
      simp only [hm, decide_true, Bool.true_and]
      have e0 : (0 : Int).toNat = 0 := rfl
      rw [e0, er, Nat.sub_zero, ← List.range_eq_range', Int.add_zero] at this
      refine Tells.step (fun k => ?_) this
      simp only [butlerref01_Right.l0]
      rw [if_pos (by omega), if_pos (by omega), er, rmay_is hwf]
      simp only [hm, decide_true, Option.bind_some, if_true]
    · simp only [hm, decide_false, Bool.false_and]
      refine Tells.step (g := fun _ => some false) (fun k => ?_) (Tells.of fun _ => rfl)
      simp only [butlerref01_Right.l0]
      rw [if_pos (by omega), if_pos (by omega), er, rmay_is hwf]
      simp [hm]
theorem rright_is (l : List S26) (hl : l.length ≤ 1152921504606846976) (hw : ∀ f ∈ l, I64 f.f1) : Tells (fun k => butlerref01_Right.f k l) (rightFrom (fun _ => false) l) := by
  have h := rright_loop l hl hw l.length 0 (List.replicate 64 false) (fun _ => false) ⟨by simp, fun n hn => by rw [List.getD_eq_getElem?_getD, List.getElem?_replicate, if_pos hn]; rfl⟩ (by omega) (by omega)
  rw [List.drop_zero] at h
  exact Tells.congr (fun k => by unfold butlerref01_Right.f; rw [if_pos (by decide)]; rfl) h

/-- Enough rounds for all. -/
theorem all_asks (x at_ bits v : Int) (l : List S26) (hb : I64 bits) (hl : l.length ≤ 1152921504606846976) (hw : ∀ f ∈ l, I64 f.f1) : ∃ k a b c d, butlerlaw01_awake.f k = some true ∧ word_Right.f k l = some a ∧ word_Get.f k x at_ bits = some b ∧ word_Put.f k x at_ bits v = some (c, d) ∧
    butlerref01_Right.f k l = some a ∧ butlerref01_Get.f k x at_ bits = some b ∧ butlerref01_Put.f k x at_ bits v = some (c, d) := by
  obtain ⟨K0, h0⟩ := awake_is
  obtain ⟨K1, h1⟩ := right_is l hl hw
  obtain ⟨K2, h2⟩ := rright_is l hl hw
  obtain ⟨b, K3, K4, h3, h4⟩ : ∃ b K3 K4, (∀ k, K3 ≤ k → word_Get.f k x at_ bits = some b) ∧ ∀ k, K4 ≤ k → butlerref01_Get.f k x at_ bits = some b := by
    by_cases hm : May at_ bits
    · obtain ⟨r, hr, K3, h3⟩ := get_may x hm
      obtain ⟨s, hs, K4, h4⟩ := rget_may x hm
      have := getIs_unique hr hs
      subst this
      exact ⟨r, K3, K4, h3, h4⟩
    · obtain ⟨K3, h3⟩ := get_not x hb hm
      obtain ⟨K4, h4⟩ := rget_not x hb hm
      exact ⟨0, K3, K4, h3, h4⟩
  obtain ⟨c, d, K5, K6, h5, h6⟩ : ∃ c d K5 K6, (∀ k, K5 ≤ k → word_Put.f k x at_ bits v = some (c, d)) ∧ ∀ k, K6 ≤ k → butlerref01_Put.f k x at_ bits v = some (c, d) := by
    by_cases hm : Fits at_ bits v
    · obtain ⟨r, hr, K5, h5⟩ := put_fits x hm
      obtain ⟨s, hs, K6, h6⟩ := rput_fits x hm
      have := putIs_unique hr hs
      subst this
      exact ⟨r, 0, K5, K6, h5, h6⟩
    · obtain ⟨K5, h5⟩ := put_not x hb hm
      obtain ⟨K6, h6⟩ := rput_not x hb hm
      exact ⟨0, 10, K5, K6, h5, h6⟩
  exact ⟨K0 + K1 + K2 + K3 + K4 + K5 + K6, _, b, c, d, h0 _ (by omega), h1 _ (by omega), h3 _ (by omega), h5 _ (by omega), h2 _ (by omega), h4 _ (by omega), h6 _ (by omega)⟩
end Go.Proofs.Ytodfbhogfakieaa.FWordAsks

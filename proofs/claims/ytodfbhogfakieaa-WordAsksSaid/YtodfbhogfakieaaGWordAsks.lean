/- What the printed functions of the document's answer (butlerref01) tell, said in bits; for the law WordAsks. -/
import Derived.Test.YtodfbhogfakieaaFWordAsks
namespace Go.Proofs.Ytodfbhogfakieaa.FWordAsks
open Go.RowKit Go.Proofs.YtodfbhogfakieaaW.PrintWords Go.Proofs.YtodfbhogfakieaaW.PrintLast Go.Proofs.YtodfbhogfakieaaW.PrintMore Go.Proofs.Ytodfbhogfakieaa.Math Go.Proofs.Ytodfbhogfakieaa.PWordAsks
set_option linter.unusedVariables false
set_option linter.unusedSimpArgs false

theorem rmay_is {a b : Int} (hb : I64 b) : butlerref01_may.f a b = some (decide (May a b)) := may_is (a := a) hb
theorem rbit_is (x : Int) {p : Int} (h0 : 0 ≤ p) (h1 : p < 64) : butlerref01_bit.f x p = some (if bit x p.toNat = true then 1 else 0) := by
  unfold butlerref01_bit.f
  rw [if_pos h0, bit_num x h0 h1]
theorem num_01 (b : Bool) : (if b = true then (1 : Int) else 0) = 0 ∨ (if b = true then (1 : Int) else 0) = 1 := by cases b <;> simp
theorem num_dec (b : Bool) : decide ((if b = true then (1 : Int) else 0) = 1) = b := by cases b <;> simp

/-- The bits of x, with v in the field. -/
def target (x at_ bits v : Int) (n : Nat) : Bool := if at_ ≤ n ∧ (n : Int) < at_ + bits then bit v (n - at_.toNat) else bit x n
theorem rput_loop {x v at_ bits : Int} (hm : May at_ bits) : ∀ (d : Nat) (m y : Int), -1 ≤ m → m ≤ 63 → (m + 1).toNat = d → 0 ≤ y → y < 2 ^ (63 - m).toNat → (∀ n, n < 64 → bit y n = (decide ((n : Int) < 63 - m) && target x at_ bits v (n + (m + 1).toNat))) →
    ∃ r, PutIs x at_ bits v r ∧ Tells (fun k => butlerref01_Put.l0 k x v y m at_ bits) (r, 0) := by
  have hm' := hm
  unfold May at hm'
  intro d
  induction d with
  | zero =>
    intro m y h0 h1 hd hy0 hy hbits
    have e : m = -1 := by omega
    subst e
    refine ⟨wrap64 y, ⟨i64_wrap64 _, fun n hn => ?_⟩, Tells.step (g := fun _ => some (wrap64 y, 0)) (fun k => by simp only [butlerref01_Put.l0]; rw [if_neg (by omega)]) (Tells.of fun _ => rfl)⟩
    rw [bit_congr (bv_wrap64 y), hbits n hn, decide_eq_true (show (n : Int) < 63 - -1 by omega), Bool.true_and]
    rfl
  | succ d ih =>
    intro m y h0 h1 hd hy0 hy hbits
    have hm0 : 0 ≤ m := by omega
    have hp : (2 : Int) ^ (63 - m).toNat ≤ 2 ^ 63 := by
      have : (2 : Nat) ^ (63 - m).toNat ≤ 2 ^ 63 := Nat.pow_le_pow_right (by decide) (by omega)
      exact_mod_cast this
    have hp2 : (2 : Int) ^ (63 - (m - 1)).toNat = 2 * 2 ^ (63 - m).toNat := by
      rw [show (63 - (m - 1)).toNat = (63 - m).toNat + 1 by omega, Int.pow_succ, Int.mul_comm]
    have wm : wrap64 (m - 1) = m - 1 := wrap64_id (by unfold I64; omega)
    have wa : wrap64 (at_ + bits) = at_ + bits := wrap64_id (by unfold I64; omega)
    have ws : ∀ t : Int, (t = 0 ∨ t = 1) → IntKind.u64.wrap (IntKind.u64.wrap (2 * y) + IntKind.u64.wrap t) = 2 * y + t := fun t ht => by
      rw [wrapu_id (n := 2 * y) (by unfold U64; omega), wrapu_id (n := t) (by unfold U64; omega), wrapu_id (by unfold U64; omega)]
    -- the bit that comes now, and what is left to do
    have key : ∀ t : Bool, t = target x at_ bits v m.toNat → ∃ r, PutIs x at_ bits v r ∧ Tells (fun k => butlerref01_Put.l0 k x v (IntKind.u64.wrap (IntKind.u64.wrap (2 * y) + IntKind.u64.wrap (if t = true then 1 else 0))) (wrap64 (m - 1)) at_ bits) (r, 0) := by
      intro t ht
      rw [ws _ (num_01 t), wm]
      have h01 := num_01 t
      refine ih (m - 1) _ (by omega) (by omega) (by omega) (by omega) (by omega) (fun n hn => ?_)
      cases n with
      | zero =>
        rw [bit_acc0 hy0 h01, num_dec, decide_eq_true (show ((0 : Nat) : Int) < 63 - (m - 1) by omega), ht, show 0 + (m - 1 + 1).toNat = m.toNat by omega, Bool.true_and]
      | succ n =>
        rw [bit_acc hy0 h01 hn, hbits n (by omega), show n + 1 + (m - 1 + 1).toNat = n + (m + 1).toNat by omega]
        by_cases h : (n : Int) < 63 - m
        · rw [decide_eq_true h, decide_eq_true (show ((n + 1 : Nat) : Int) < 63 - (m - 1) by omega)]
        · rw [decide_eq_false h, decide_eq_false (show ¬ ((n + 1 : Nat) : Int) < 63 - (m - 1) by omega)]
    by_cases hin : at_ ≤ m ∧ m < at_ + bits
    · obtain ⟨r, hr, hk⟩ := key (bit v (m - at_).toNat) (by unfold target; rw [if_pos (by omega), show m.toNat - at_.toNat = (m - at_).toNat by omega])
      refine ⟨r, hr, Tells.step (fun k => ?_) hk⟩
      simp only [butlerref01_Put.l0]
      rw [if_pos hm0, rbit_is x hm0 (by omega), Option.bind_some, if_pos hin.1, wa, if_pos hin.2, wrap64_id (n := m - at_) (by unfold I64; omega), rbit_is v (by omega) (by omega), Option.bind_some]
    · obtain ⟨r, hr, hk⟩ := key (bit x m.toNat) (by unfold target; rw [if_neg (by omega)])
      refine ⟨r, hr, Tells.step (fun k => ?_) hk⟩
      simp only [butlerref01_Put.l0]
      rw [if_pos hm0, rbit_is x hm0 (by omega), Option.bind_some]
      by_cases h : m ≥ at_
      · rw [if_pos h, wa, if_neg (by omega)]
      · rw [if_neg h]
theorem rput_fits (x : Int) {at_ bits v : Int} (hm : Fits at_ bits v) : ∃ r, PutIs x at_ bits v r ∧ Tells (fun k => butlerref01_Put.f k x at_ bits v) (r, 0) := by
  obtain ⟨hm, hv0, hv⟩ := hm
  have hm' := hm
  unfold May at hm'
  obtain ⟨r, hr, hk⟩ := rput_loop (x := x) (v := v) hm 64 63 0 (by omega) (by omega) (by omega) (by omega) (by decide) (fun n hn => by
    rw [bit_0, decide_eq_false (show ¬ (n : Int) < 63 - 63 by omega), Bool.false_and])
  refine ⟨r, hr, Tells.congr (g := fun k => butlerref01_Put.j0 k x v false at_ bits) (fun k => ?_) (Tells.step (fun k => ?_) hk)⟩
  · unfold butlerref01_Put.f
    rw [rmay_is (by unfold I64; omega)]
    simp only [hm, decide_true, Option.bind_some, if_true]
    rw [if_neg (show ¬ v < 0 by omega), if_pos (show 0 ≤ bits by omega), decide_eq_false (show ¬ v ≥ shl .i64 1 bits from fun h => (shl_le (by omega) (by omega)).1 h hv)]
  · simp only [butlerref01_Put.j0]
    rw [if_neg (show ¬ (false = true) by simp)]
theorem rput_not (x : Int) {at_ bits v : Int} (hb : I64 bits) (hm : ¬ Fits at_ bits v) : Tells (fun k => butlerref01_Put.f k x at_ bits v) (0, 10) := by
  have hj : Tells (fun k => butlerref01_Put.j0 k x v true at_ bits) (0, 10) := Tells.step (g := fun _ => some (0, 10)) (fun k => by simp [butlerref01_Put.j0]) (Tells.of fun _ => rfl)
  refine Tells.congr (fun k => ?_) hj
  unfold butlerref01_Put.f
  rw [rmay_is hb]
  by_cases hmay : May at_ bits
  · have hm' := hmay
    unfold May at hm'
    simp only [hmay, decide_true, Option.bind_some, if_true]
    by_cases hv0 : v < 0
    · rw [if_pos hv0]
    · have hv : ¬ v < 2 ^ bits.toNat := fun h => hm ⟨hmay, by omega, h⟩
      rw [if_neg hv0, if_pos (by omega), decide_eq_true ((shl_le (by omega) (by omega)).2 hv)]
  · simp [hmay]
end Go.Proofs.Ytodfbhogfakieaa.FWordAsks

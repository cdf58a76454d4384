/- That the printed function of WordBack answers true at every input: behind Put Get tells it; what is there put again changes nothing; the last Put counts; other bits stay. -/
import Derived.Test.YtodfbhogfakieaaGWordBack
namespace Go.Proofs.Ytodfbhogfakieaa.Pure
open Go.RowKit Go.Proofs.Ytodfbhogfakieaa.PWordBack Go.Proofs.YtodfbhogfakieaaW.PrintWords Go.Proofs.YtodfbhogfakieaaW.PrintLast Go.Proofs.YtodfbhogfakieaaW.PrintMore Go.Proofs.Ytodfbhogfakieaa.Math Go.Proofs.Ytodfbhogfakieaa.FWordBack
set_option linter.unusedVariables false

theorem back_get {x at_ bits v y r : Int} (hf : Fits at_ bits v) (hy : PutIs x at_ bits v y) (hr : GetIs y at_ bits r) : r = v := by
  obtain ⟨hm, hv0, hv⟩ := hf
  have hm' := hm
  unfold May at hm'
  have hp : (2 : Int) ^ bits.toNat ≤ 2 ^ 62 := by
    have : (2 : Nat) ^ bits.toNat ≤ 2 ^ 62 := Nat.pow_le_pow_right (by decide) (by omega)
    exact_mod_cast this
  refine i64_inj hr.1 (by unfold I64; omega) (bit_ext fun n hn => ?_)
  rw [hr.2 n hn]
  by_cases h : (n : Int) < bits
  · rw [decide_eq_true h, hy.2 _ (by omega), if_pos (by omega), show at_.toNat + n - at_.toNat = n by omega, Bool.true_and]
  · rw [decide_eq_false h, Bool.false_and, bit_small hv0 hv (by omega)]
theorem back_same {x at_ bits r y : Int} (hx : I64 x) (hm : May at_ bits) (hr : GetIs x at_ bits r) (hy : PutIs x at_ bits r y) : y = x := by
  have hm' := hm
  unfold May at hm'
  refine i64_inj hy.1 hx (bit_ext fun n hn => ?_)
  rw [hy.2 n hn]
  by_cases h : at_ ≤ (n : Int) ∧ (n : Int) < at_ + bits
  · rw [if_pos h, hr.2 _ (by omega), decide_eq_true (show ((n - at_.toNat : Nat) : Int) < bits by omega), show at_.toNat + (n - at_.toNat) = n by omega, Bool.true_and]
  · rw [if_neg h]
theorem back_last {x at_ bits v w y z d : Int} (hy : PutIs x at_ bits v y) (hz : PutIs y at_ bits w z) (hd : PutIs x at_ bits w d) : z = d := by
  refine i64_inj hz.1 hd.1 (bit_ext fun n hn => ?_)
  rw [hz.2 n hn, hd.2 n hn]
  by_cases h : at_ ≤ (n : Int) ∧ (n : Int) < at_ + bits
  · rw [if_pos h, if_pos h]
  · rw [if_neg h, if_neg h, hy.2 n hn, if_neg h]
theorem back_rest {x at_ bits v y : Int} (hm : May at_ bits) (hy : PutIs x at_ bits v y) :
    Go.bits .andNot .i64 y (shl .i64 (wrap64 ((shl .i64 1 bits) - 1)) at_) = Go.bits .andNot .i64 x (shl .i64 (wrap64 ((shl .i64 1 bits) - 1)) at_) := by
  have hm' := hm
  unfold May at hm'
  refine i64_inj (i64_bits _ _ _) (i64_bits _ _ _) (bit_ext fun n hn => ?_)
  rw [bit_andNot (.inl rfl) _ _ hn, bit_andNot (.inl rfl) _ _ hn, bit_mask (by omega) (by omega) (by omega) (by omega) hn, hy.2 n hn]
  by_cases h : at_ ≤ (n : Int) ∧ (n : Int) < at_ + bits
  · rw [decide_eq_true (show at_.toNat ≤ n by omega), decide_eq_true (show n - at_.toNat < bits.toNat by omega)]
    simp
  · rw [if_neg h]

theorem back_j_no (x v w y e m at_ bits : Int) (h : e = m) (hy : y = 0) : Tells (fun k => butlerlaw01_WordBack.j0 k x v w true y e m true at_ bits) true := by
  subst h hy
  exact Tells.step (g := fun _ => some true) (fun k => by simp [butlerlaw01_WordBack.j0]) (Tells.of fun _ => rfl)
theorem back_j_yes (x v w y at_ bits : Int) (hx : I64 x) (hb : I64 bits) (hf : Fits at_ bits v) (hy : PutIs x at_ bits v y) : Tells (fun k => butlerlaw01_WordBack.j0 k x v w true y 0 0 false at_ bits) true := by
  obtain ⟨hm, hv0, hv⟩ := id hf
  have hm' := hm
  unfold May at hm'
  have hstep : ∀ k, butlerlaw01_WordBack.j0 (k + 1) x v w true y 0 0 false at_ bits = ((word_Get.f k y at_ bits).bind fun t129 => ((word_Get.f k x at_ bits).bind fun t130 => ((word_Put.f k x at_ bits t130).bind fun bt131 => ((word_Put.f k y at_ bits w).bind fun bt133 => ((word_Put.f k x at_ bits w).bind fun bt135 => (if 0 ≤ bits then (if 0 ≤ at_ then (if t129 = v then (if bt131.1 = x then (if bt131.2 = 0 then (if bt133.1 = bt135.1 then (if bt133.2 = bt135.2 then (some ((Go.bits .andNot .i64 y (shl .i64 (wrap64 ((shl .i64 1 bits) - 1)) at_)) == (Go.bits .andNot .i64 x (shl .i64 (wrap64 ((shl .i64 1 bits) - 1)) at_)))) else (some false)) else (some false)) else (some false)) else (some false)) else (some false)) else (none)) else (none))))))) := fun k => by
    simp only [butlerlaw01_WordBack.j0]
    rw [if_neg (show ¬ (false = true) by simp)]
  refine Tells.step hstep ?_
  obtain ⟨r, hr, kr⟩ := get_may y hm
  obtain ⟨q, hq, kq⟩ := get_may x hm
  have hqr := getIs_range hm hq
  obtain ⟨s, hs, ks⟩ := put_fits x (at_ := at_) (bits := bits) (v := q) ⟨hm, hqr.1, hqr.2⟩
  have er : r = v := back_get hf hy hr
  have es : s = x := back_same hx hm hq hs
  have erest := back_rest hm hy
  refine Tells.bind kr (Tells.bind kq (Tells.bind ks ?_))
  by_cases hw : Fits at_ bits w
  · obtain ⟨z, hz, kz⟩ := put_fits y hw
    obtain ⟨d, hd, kd⟩ := put_fits x hw
    have ez : z = d := back_last hy hz hd
    refine Tells.bind kz (Tells.bind kd (Tells.of fun k => ?_))
    rw [if_pos (by omega), if_pos (by omega), if_pos er, if_pos es, if_pos rfl, if_pos ez, if_pos rfl, erest]
    simp
  · refine Tells.bind (put_not y hb hw) (Tells.bind (put_not x hb hw) (Tells.of fun k => ?_))
    rw [if_pos (by omega), if_pos (by omega), if_pos er, if_pos es, if_pos rfl, if_pos rfl, if_pos rfl, erest]
    simp

theorem WordBack (x at_ bits v w : Int) (hx : I64 x) (hb : I64 bits) : ∃ k, butlerlaw01_WordBack.f k x at_ bits v w = some true := by
  refine Tells.val (f := fun k => butlerlaw01_WordBack.f k x at_ bits v w) ?_
  unfold butlerlaw01_WordBack.f
  refine Tells.bind awake_is ?_
  by_cases hf : Fits at_ bits v
  · obtain ⟨y, hy, ky⟩ := put_fits x hf
    obtain ⟨z, hz, kz⟩ := rput_fits x hf
    refine Tells.bind ky (Tells.bind kz (Tells.congr (fun k => ?_) (back_j_yes x v w y at_ bits hx hb hf hy)))
    rw [if_pos rfl, if_pos rfl]
    rfl
  · refine Tells.bind (put_not x hb hf) (Tells.bind (rput_not x hb hf) (Tells.congr (fun k => ?_) (back_j_no x v w 0 10 10 at_ bits rfl rfl)))
    rw [if_pos rfl, if_pos rfl]
    rfl
end Go.Proofs.Ytodfbhogfakieaa.Pure

/- That the printed function of WordApart answers true at every input: fields that are right together have nothing to do with one another. -/
import Derived.Test.YtodfbhogfakieaaFWordApart
namespace Go.Proofs.Ytodfbhogfakieaa.Pure
open Go.RowKit Go.Proofs.Ytodfbhogfakieaa.PWordApart Go.Proofs.YtodfbhogfakieaaW.PrintWords Go.Proofs.YtodfbhogfakieaaW.PrintLast Go.Proofs.YtodfbhogfakieaaW.PrintMore Go.Proofs.Ytodfbhogfakieaa.Math Go.Proofs.Ytodfbhogfakieaa.FWordApart
set_option linter.unusedVariables false

theorem right_two {f g : S26} (h : rightFrom (fun _ => false) [f, g] = true) : May f.f0 f.f1 ∧ May g.f0 g.f1 ∧ ∀ n : Nat, ¬ ((f.f0 ≤ n ∧ (n : Int) < f.f0 + f.f1) ∧ (g.f0 ≤ n ∧ (n : Int) < g.f0 + g.f1)) := by
  simp only [rightFrom, Bool.and_true] at h
  obtain ⟨h1, h2⟩ := Bool.and_eq_true_iff.1 h
  obtain ⟨h1, _⟩ := Bool.and_eq_true_iff.1 h1
  obtain ⟨h3, h4⟩ := Bool.and_eq_true_iff.1 h2
  have m1 := of_decide_eq_true h1
  have m2 := of_decide_eq_true h3
  refine ⟨m1, m2, fun n ⟨⟨a, b⟩, ⟨c, d⟩⟩ => ?_⟩
  unfold May at m1 m2
  have := (List.all_eq_true.1 h4) (n - g.f0.toNat) (List.mem_range.2 (by omega))
  rw [show g.f0.toNat + (n - g.f0.toNat) = n by omega, decide_eq_true a, decide_eq_true b] at this
  simp at this
theorem get_apart {x a v f0 f1 g0 g1 p q : Int} (hm : May g0 g1) (hdis : ∀ n : Nat, ¬ ((f0 ≤ n ∧ (n : Int) < f0 + f1) ∧ (g0 ≤ n ∧ (n : Int) < g0 + g1))) (ha : PutIs x f0 f1 v a) (hp : GetIs a g0 g1 p) (hq : GetIs x g0 g1 q) : p = q := by
  refine i64_inj hp.1 hq.1 (bit_ext fun n hn => ?_)
  unfold May at hm
  rw [hp.2 n hn, hq.2 n hn]
  by_cases h : (n : Int) < g1
  · have := hdis (g0.toNat + n)
    rw [ha.2 _ (by omega), if_neg (fun h' => this ⟨h', by omega, by omega⟩)]
  · simp [h]
theorem put_apart {x a b c d v w f0 f1 g0 g1 : Int} (hdis : ∀ n : Nat, ¬ ((f0 ≤ n ∧ (n : Int) < f0 + f1) ∧ (g0 ≤ n ∧ (n : Int) < g0 + g1))) (ha : PutIs x f0 f1 v a) (hb : PutIs x g0 g1 w b) (hc : PutIs a g0 g1 w c) (hd : PutIs b f0 f1 v d) : c = d := by
  refine i64_inj hc.1 hd.1 (bit_ext fun n hn => ?_)
  rw [hc.2 n hn, hd.2 n hn]
  have := hdis n
  by_cases h1 : f0 ≤ (n : Int) ∧ (n : Int) < f0 + f1
  · have h2 : ¬ (g0 ≤ (n : Int) ∧ (n : Int) < g0 + g1) := fun h => this ⟨h1, h⟩
    rw [if_neg h2, if_pos h1, ha.2 n hn, if_pos h1]
  · rw [if_neg h1]
    by_cases h2 : g0 ≤ (n : Int) ∧ (n : Int) < g0 + g1
    · rw [if_pos h2, hb.2 n hn, if_pos h2]
    · rw [if_neg h2, ha.2 n hn, if_neg h1, hb.2 n hn, if_neg h2]

theorem apart_j (x v w f0 f1 g0 g1 : Int) (A N : Bool) (hA : A = true) (hN : N = !rightFrom (fun _ => false) [⟨f0, f1⟩, ⟨g0, g1⟩]) (hf : I64 f1) (hg : I64 g1) :
    Tells (fun k => butlerlaw01_WordApart.j0 k x v w A N f0 f1 g0 g1) true := by
  subst hA
  cases N with
  | true => exact Tells.step (g := fun _ => some true) (fun k => by simp [butlerlaw01_WordApart.j0]) (Tells.of fun _ => rfl)
  | false =>
    obtain ⟨m1, m2, hdis⟩ := right_two (f := ⟨f0, f1⟩) (g := ⟨g0, g1⟩) (by simpa using hN.symm)
    simp only at m1 m2 hdis
    have hstep : ∀ k, butlerlaw01_WordApart.j0 (k + 1) x v w true false f0 f1 g0 g1 = ((word_Put.f k x f0 f1 v).bind fun bt125 => (if bt125.2 = 0 then ((word_Get.f k bt125.1 g0 g1).bind fun t127 => ((word_Get.f k x g0 g1).bind fun t128 => ((word_Put.f k x g0 g1 w).bind fun bt129 => (if bt129.2 = 0 then ((word_Put.f k bt125.1 g0 g1 w).bind fun bt131 => ((word_Put.f k bt129.1 f0 f1 v).bind fun bt133 => (if t127 = t128 then (if bt131.1 = bt133.1 then (if bt131.2 = 0 then (some (bt133.2 == 0)) else (some false)) else (some false)) else (some false)))) else (some (t127 == t128)))))) else (some true))) := fun k => by
      simp only [butlerlaw01_WordApart.j0]
      rw [if_neg (show ¬ (false = true) by simp)]
    refine Tells.step hstep ?_
    by_cases hv : Fits f0 f1 v
    · obtain ⟨a, ha, ka⟩ := put_fits x hv
      refine Tells.bind ka (Tells.congr (fun k => if_pos rfl) ?_)
      obtain ⟨p, hp, kp⟩ := get_may a m2
      obtain ⟨q, hq, kq⟩ := get_may x m2
      have epq : p = q := get_apart m2 hdis ha hp hq
      refine Tells.bind kp (Tells.bind kq ?_)
      by_cases hw : Fits g0 g1 w
      · obtain ⟨b, hb, kb⟩ := put_fits x hw
        obtain ⟨c, hc, kc⟩ := put_fits a hw
        obtain ⟨d, hd, kd⟩ := put_fits b hv
        have ecd : c = d := put_apart hdis ha hb hc hd
        refine Tells.bind kb (Tells.congr (fun k => if_pos rfl) (Tells.bind kc (Tells.bind kd (Tells.of fun k => ?_))))
        simp [epq, ecd]
      · refine Tells.bind (put_not x hg hw) (Tells.of fun k => ?_)
        simp [epq]
    · refine Tells.bind (put_not x hf hv) (Tells.of fun k => ?_)
      simp

theorem WordApart (x f0 f1 g0 g1 v w : Int) (hf : I64 f1) (hg : I64 g1) : ∃ k, butlerlaw01_WordApart.f k x f0 f1 g0 g1 v w = some true := by
  refine Tells.val (Tells.congr (g := fun k => (butlerlaw01_awake.f k).bind fun t120 => ((word_Right.f k (([(⟨f0, f1⟩ : S26), (⟨g0, g1⟩ : S26)] : List (S26)))).bind fun t124 => (butlerlaw01_WordApart.j0 k x v w t120 (if t120 = true then !t124 else true) f0 f1 g0 g1))) (fun k => ?_) (Tells.bind awake_is (Tells.bind (right_is [⟨f0, f1⟩, ⟨g0, g1⟩] (by simp) (by simp [hf, hg])) (apart_j x v w f0 f1 g0 g1 true _ rfl (by simp) hf hg))))
  unfold butlerlaw01_WordApart.f
  congr 1
  funext t
  congr 1
  funext u
  cases t <;> simp
end Go.Proofs.Ytodfbhogfakieaa.Pure

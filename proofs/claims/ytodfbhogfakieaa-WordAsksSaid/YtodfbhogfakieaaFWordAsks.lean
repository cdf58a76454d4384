/- What the printed functions of package word answer, said in bits; for the law WordAsks. -/
import Derived.Test.YtodfbhogfakieaaMath
import Derived.Test.YtodfbhogfakieaaPWordAsksx1
import Derived.Test.YtodfbhogfakieaaPWordAsksx2
namespace Go.Proofs.Ytodfbhogfakieaa.FWordAsks
open Go.RowKit Go.Proofs.YtodfbhogfakieaaW.PrintWords Go.Proofs.YtodfbhogfakieaaW.PrintLast Go.Proofs.YtodfbhogfakieaaW.PrintMore Go.Proofs.Ytodfbhogfakieaa.Math Go.Proofs.Ytodfbhogfakieaa.PWordAsks
set_option linter.unusedVariables false
set_option linter.unusedSimpArgs false

/-- With enough rounds it answers r. -/
def Tells {α : Type} (f : Nat → Option α) (r : α) : Prop := ∃ K, ∀ k, K ≤ k → f k = some r
theorem Tells.of {α : Type} {f : Nat → Option α} {r : α} (h : ∀ k, f k = some r) : Tells f r := ⟨0, fun k _ => h k⟩
theorem Tells.step {α : Type} {f g : Nat → Option α} {r : α} (h : ∀ k, f (k + 1) = g k) (hg : Tells g r) : Tells f r := by
  obtain ⟨K, hK⟩ := hg
  exact ⟨K + 1, fun k hk => by obtain ⟨m, rfl⟩ : ∃ m, k = m + 1 := ⟨k - 1, by omega⟩; rw [h m]; exact hK m (by omega)⟩
theorem Tells.bind {α β : Type} {f : Nat → Option α} {g : Nat → α → Option β} {a : α} {r : β} (hf : Tells f a) (hg : Tells (fun k => g k a) r) : Tells (fun k => (f k).bind (g k)) r := by
  obtain ⟨K, hK⟩ := hf
  obtain ⟨L, hL⟩ := hg
  exact ⟨K + L, fun k hk => by show (f k).bind (g k) = some r; rw [hK k (by omega)]; exact hL k (by omega)⟩
theorem Tells.congr {α : Type} {f g : Nat → Option α} {r : α} (h : ∀ k, f k = g k) (hg : Tells g r) : Tells f r := by
  obtain ⟨K, hK⟩ := hg
  exact ⟨K, fun k hk => by rw [h k]; exact hK k hk⟩
theorem Tells.val {α : Type} {f : Nat → Option α} {r : α} (hf : Tells f r) : ∃ k, f k = some r := by
  obtain ⟨K, hK⟩ := hf
  exact ⟨K, hK K (Nat.le_refl _)⟩

theorem may_is {a b : Int} (hb : I64 b) : word_may.f a b = some (decide (May a b)) := by
  have hM : May a b ↔ (0 ≤ a ∧ 1 ≤ b ∧ b ≤ 62 ∧ a + b ≤ 64) := Iff.rfl
  unfold word_may.f
  by_cases h1 : a ≥ 0
  · by_cases h2 : b ≥ 1
    · by_cases h3 : b ≤ 62
      · rw [if_pos h1, if_pos h2, if_pos h3, wrap64_id (by unfold I64; omega)]
        congr 1
        apply decide_eq_decide.2
        rw [hM]; omega
      · rw [if_pos h1, if_pos h2, if_neg h3, decide_eq_false (by rw [hM]; omega)]
    · rw [if_pos h1, if_neg h2, decide_eq_false (by rw [hM]; omega)]
  · rw [if_neg h1, decide_eq_false (by rw [hM]; omega)]
theorem all_same {l : List Nat} {p q : Nat → Bool} (h : ∀ b, b ∈ l → p b = q b) : l.all p = l.all q := by
  induction l with
  | nil => rfl
  | cons x l ih => rw [List.all_cons, List.all_cons, h x (by simp), ih fun b hb => h b (by simp [hb])]

/-- Get's loop. -/
theorem get_loop {x at_ bits : Int} (hm : May at_ bits) : ∀ (d : Nat) (b v : Int), 0 ≤ b → b ≤ bits → (bits - b).toNat = d → I64 v → (∀ n, n < 64 → bit v n = (decide ((n : Int) < b) && bit x (at_.toNat + n))) →
    ∃ r, GetIs x at_ bits r ∧ Tells (fun k => word_Get.l0 k x v bits b at_ bits) r := by
  have hm' := hm
  unfold May at hm'
  intro d
  induction d with
  | zero =>
    intro b v h0 h1 hd hv hbits
    have e : b = bits := by omega
    subst e
    exact ⟨v, ⟨hv, hbits⟩, Tells.step (g := fun _ => some v) (fun k => by simp only [word_Get.l0]; rw [if_neg (by omega)]) (Tells.of fun _ => rfl)⟩
  | succ d ih =>
    intro b v h0 h1 hd hv hbits
    have hlt : b < bits := by omega
    have w1 : wrap64 (at_ + b) = at_ + b := wrap64_id (by unfold I64; omega)
    have w2 : wrap64 (b + 1) = b + 1 := wrap64_id (by unfold I64; omega)
    have hx : bit (IntKind.u64.wrap x) (at_ + b).toNat = bit x (at_.toNat + b.toNat) := by
      rw [bit_congr (bv_wrapk (.inr rfl) x), show (at_ + b).toNat = at_.toNat + b.toNat by omega]
    by_cases hb : bit x (at_.toNat + b.toNat) = true
    · have hc := (shr_and_one (k := .u64) (.inr rfl) (IntKind.u64.wrap x) (p := at_ + b) (by omega) (by omega)).2 (hx.trans hb)
      obtain ⟨r, hr, hk⟩ := ih (b + 1) (Go.bits .or .i64 v (shl .i64 1 b)) (by omega) (by omega) (by omega) (i64_bits _ _ _) (fun n hn => by
        rw [bit_or (.inl rfl), hbits n hn, bit_shl_one (.inl rfl) h0 (by omega)]
        by_cases e : b.toNat = n
        · subst e
          rw [decide_eq_false (show ¬ ((b.toNat : Int) < b) by omega), decide_eq_true (show ((b.toNat : Int) < b + 1) by omega), hb, decide_eq_true rfl]; rfl
        · by_cases h' : (n : Int) < b
          · have : (n : Int) < b + 1 := by omega
            simp [h', this, e]
          · have : ¬ (n : Int) < b + 1 := by omega
            simp [h', this, e])
      refine ⟨r, hr, Tells.step (fun k => ?_) hk⟩
      simp only [word_Get.l0]
      rw [if_pos hlt, w1, if_pos (by omega), if_pos hc, if_pos h0, w2]
    · have hb' : bit x (at_.toNat + b.toNat) = false := by simpa using hb
      have hc : ¬ (Go.bits .and .u64 (shr .u64 (IntKind.u64.wrap x) (at_ + b)) 1 = 1) := fun h => by
        have := (shr_and_one (k := .u64) (.inr rfl) (IntKind.u64.wrap x) (p := at_ + b) (by omega) (by omega)).1 h
        rw [hx, hb'] at this
        cases this
      obtain ⟨r, hr, hk⟩ := ih (b + 1) v (by omega) (by omega) (by omega) hv (fun n hn => by
        rw [hbits n hn]
        by_cases e : b.toNat = n
        · subst e
          simp [hb']
        · by_cases h' : (n : Int) < b
          · have : (n : Int) < b + 1 := by omega
            simp [h', this]
          · have : ¬ (n : Int) < b + 1 := by omega
            simp [h', this])
      refine ⟨r, hr, Tells.step (fun k => ?_) hk⟩
      simp only [word_Get.l0]
      rw [if_pos hlt, w1, if_pos (by omega), if_neg hc, w2]

theorem get_may (x : Int) {at_ bits : Int} (hm : May at_ bits) : ∃ r, GetIs x at_ bits r ∧ Tells (fun k => word_Get.f k x at_ bits) r := by
  have hm' := hm
  unfold May at hm'
  obtain ⟨r, hr, hk⟩ := get_loop (x := x) hm bits.toNat 0 0 (by omega) (by omega) (by omega) (by unfold I64; omega) (fun n hn => by
    rw [bit_0]
    have : ¬ ((n : Int) < 0) := by omega
    simp [this])
  refine ⟨r, hr, Tells.congr (fun k => ?_) hk⟩
  unfold word_Get.f
  rw [may_is (by unfold I64; omega)]
  simp [hm]
theorem get_not (x : Int) {at_ bits : Int} (hb : I64 bits) (hm : ¬ May at_ bits) : Tells (fun k => word_Get.f k x at_ bits) 0 := by
  refine Tells.of fun k => ?_
  unfold word_Get.f
  rw [may_is hb]
  simp [hm]

/-- Put's loop. -/
theorem put_loop {x v at_ bits : Int} (hm : May at_ bits) : ∀ (d : Nat) (b y : Int), 0 ≤ b → b ≤ bits → (bits - b).toNat = d → (∀ n, n < 64 → bit y n = if at_ ≤ n ∧ (n : Int) < at_ + b then bit v (n - at_.toNat) else bit x n) →
    ∃ r, PutIs x at_ bits v r ∧ Tells (fun k => word_Put.l0 k v y bits b at_ bits) (r, 0) := by
  have hm' := hm
  unfold May at hm'
  intro d
  induction d with
  | zero =>
    intro b y h0 h1 hd hbits
    have e : b = bits := by omega
    subst e
    exact ⟨wrap64 y, ⟨i64_wrap64 _, fun n hn => by rw [bit_congr (bv_wrap64 y)]; exact hbits n hn⟩, Tells.step (g := fun _ => some (wrap64 y, 0)) (fun k => by simp only [word_Put.l0]; rw [if_neg (by omega)]) (Tells.of fun _ => rfl)⟩
  | succ d ih =>
    intro b y h0 h1 hd hbits
    have hlt : b < bits := by omega
    have w1 : wrap64 (at_ + b) = at_ + b := wrap64_id (by unfold I64; omega)
    have w2 : wrap64 (b + 1) = b + 1 := wrap64_id (by unfold I64; omega)
    have hbit : ∀ n, bit (shl .u64 1 (at_ + b)) n = decide ((at_ + b).toNat = n) := fun n => bit_shl_one (.inr rfl) (by omega) (by omega) n
    by_cases hb : bit v b.toNat = true
    · have hc := (shr_and_one (k := .i64) (.inl rfl) v (p := b) h0 (by omega)).2 hb
      obtain ⟨r, hr, hk⟩ := ih (b + 1) (Go.bits .or .u64 (Go.bits .andNot .u64 y (shl .u64 1 (at_ + b))) (shl .u64 1 (at_ + b))) (by omega) (by omega) (by omega) (fun n hn => by
        rw [bit_or (.inr rfl), bit_andNot (.inr rfl) _ _ hn, hbit, hbits n hn]
        by_cases e : (at_ + b).toNat = n
        · subst e
          rw [if_pos (show at_ ≤ (((at_ + b).toNat : Nat) : Int) ∧ (((at_ + b).toNat : Nat) : Int) < at_ + (b + 1) by omega), show (at_ + b).toNat - at_.toNat = b.toNat by omega, hb, decide_eq_true rfl, Bool.or_true]
        · by_cases h' : at_ ≤ (n : Int) ∧ (n : Int) < at_ + b
          · rw [if_pos h', if_pos (show at_ ≤ (n : Int) ∧ (n : Int) < at_ + (b + 1) by omega)]; simp [e]
          · rw [if_neg h', if_neg (show ¬ (at_ ≤ (n : Int) ∧ (n : Int) < at_ + (b + 1)) by omega)]; simp [e])
      refine ⟨r, hr, Tells.step (fun k => ?_) hk⟩
      simp only [word_Put.l0]
      rw [if_pos hlt, w1, if_pos (by omega), if_pos h0, if_pos hc, w2]
    · have hb' : bit v b.toNat = false := by simpa using hb
      have hc : ¬ (Go.bits .and .i64 (shr .i64 v b) 1 = 1) := fun h => by
        have := (shr_and_one (k := .i64) (.inl rfl) v (p := b) h0 (by omega)).1 h
        rw [hb'] at this
        cases this
      obtain ⟨r, hr, hk⟩ := ih (b + 1) (Go.bits .andNot .u64 y (shl .u64 1 (at_ + b))) (by omega) (by omega) (by omega) (fun n hn => by
        rw [bit_andNot (.inr rfl) _ _ hn, hbit, hbits n hn]
        by_cases e : (at_ + b).toNat = n
        · subst e
          rw [if_pos (show at_ ≤ (((at_ + b).toNat : Nat) : Int) ∧ (((at_ + b).toNat : Nat) : Int) < at_ + (b + 1) by omega), show (at_ + b).toNat - at_.toNat = b.toNat by omega, hb', decide_eq_true rfl, Bool.not_true, Bool.and_false]
        · by_cases h' : at_ ≤ (n : Int) ∧ (n : Int) < at_ + b
          · rw [if_pos h', if_pos (show at_ ≤ (n : Int) ∧ (n : Int) < at_ + (b + 1) by omega)]; simp [e]
          · rw [if_neg h', if_neg (show ¬ (at_ ≤ (n : Int) ∧ (n : Int) < at_ + (b + 1)) by omega)]; simp [e])
      refine ⟨r, hr, Tells.step (fun k => ?_) hk⟩
      simp only [word_Put.l0]
      rw [if_pos hlt, w1, if_pos (by omega), if_pos h0, if_neg hc, w2]

/-- What may be put. -/
def Fits (at_ bits v : Int) : Prop := May at_ bits ∧ 0 ≤ v ∧ v < 2 ^ bits.toNat
instance (a b v : Int) : Decidable (Fits a b v) := by unfold Fits; infer_instance
theorem put_fits (x : Int) {at_ bits v : Int} (hm : Fits at_ bits v) : ∃ r, PutIs x at_ bits v r ∧ Tells (fun k => word_Put.f k x at_ bits v) (r, 0) := by
  obtain ⟨hm, hv0, hv⟩ := hm
  have hm' := hm
  unfold May at hm'
  obtain ⟨r, hr, hk⟩ := put_loop (x := x) (v := v) hm bits.toNat 0 (IntKind.u64.wrap x) (by omega) (by omega) (by omega) (fun n hn => by
    rw [if_neg (show ¬ (at_ ≤ (n : Int) ∧ (n : Int) < at_ + 0) by omega), bit_congr (bv_wrapk (.inr rfl) x)])
  refine ⟨r, hr, Tells.congr (g := fun k => word_Put.j0 k x v false at_ bits) (fun k => ?_) (Tells.step (fun k => ?_) hk)⟩
  · unfold word_Put.f
    rw [may_is (by unfold I64; omega)]
    simp only [hm, decide_true, Option.bind_some, if_true]
    rw [if_neg (show ¬ v < 0 by omega), if_pos (show 0 ≤ bits by omega), (shr_zero hv0 (by omega) (by omega)).2 hv]
    rfl
  · simp only [word_Put.j0]
    rw [if_neg (show ¬ (false = true) by simp)]
theorem put_not (x : Int) {at_ bits v : Int} (hb : I64 bits) (hm : ¬ Fits at_ bits v) : Tells (fun k => word_Put.f k x at_ bits v) (0, 10) := by
  have hj : Tells (fun k => word_Put.j0 k x v true at_ bits) (0, 10) := Tells.step (g := fun _ => some (0, 10)) (fun k => by simp [word_Put.j0]) (Tells.of fun _ => rfl)
  refine Tells.congr (fun k => ?_) hj
  unfold word_Put.f
  rw [may_is hb]
  by_cases hmay : May at_ bits
  · have hm' := hmay
    unfold May at hm'
    simp only [hmay, decide_true, Option.bind_some, if_true]
    by_cases hv0 : v < 0
    · rw [if_pos hv0]
    · have hv : ¬ v < 2 ^ bits.toNat := fun h => hm ⟨hmay, by omega, h⟩
      have hs : shr .i64 v bits ≠ 0 := fun h => hv ((shr_zero (by omega) (by omega) (by omega)).1 h)
      have hs' : (shr .i64 v bits != 0) = true := bne_iff_ne.2 hs
      rw [if_neg hv0, if_pos (by omega), hs']
  · simp [hmay]

/-- Are fields right, side by side? From these bits on. -/
def rightFrom : (Nat → Bool) → List S26 → Bool
  | _, [] => true
  | used, f :: l => decide (May f.f0 f.f1) && (List.range f.f1.toNat).all (fun b => !used (f.f0.toNat + b)) && rightFrom (fun n => used n || (decide (f.f0 ≤ n) && decide ((n : Int) < f.f0 + f.f1))) l
theorem rightFrom_congr {l : List S26} : ∀ {u u' : Nat → Bool}, (∀ n, n < 64 → u n = u' n) → rightFrom u l = rightFrom u' l := by
  induction l with
  | nil => intro u u' h; rfl
  | cons f l ih =>
    intro u u' h
    unfold rightFrom
    by_cases hm : May f.f0 f.f1
    · have hm' := hm
      unfold May at hm'
      have e1 : (List.range f.f1.toNat).all (fun b => !u (f.f0.toNat + b)) = (List.range f.f1.toNat).all (fun b => !u' (f.f0.toNat + b)) := by
        apply all_same
        intro b hb
        have := List.mem_range.1 hb
        rw [h _ (by omega)]
      have e2 := ih (u := fun n => u n || (decide (f.f0 ≤ n) && decide ((n : Int) < f.f0 + f.f1))) (u' := fun n => u' n || (decide (f.f0 ≤ n) && decide ((n : Int) < f.f0 + f.f1))) (fun n hn => by rw [h n hn])
      rw [e1, e2]
    · simp [hm]
/-- Right's inner loop: from bit b of the field on. -/
theorem right_inner {l : List S26} {N i at_ bits : Int} (hm : May at_ bits) : ∀ (d : Nat) (b u : Int) , 0 ≤ b → b ≤ bits → (bits - b).toNat = d →
    (∀ r, (∀ u', (∀ n, n < 64 → bit u' n = (bit u n || (decide (at_ + b ≤ n) && decide ((n : Int) < at_ + bits)))) → Tells (fun k => word_Right.l0 k u' l N (wrap64 (i + 1))) r) →
      Tells (fun k => word_Right.l1 k u l N i bits b at_ bits) ((List.range' b.toNat (bits.toNat - b.toNat)).all (fun c => !bit u (at_.toNat + c)) && r)) := by
  have hm' := hm
  unfold May at hm'
  intro d
  induction d with
  | zero =>
    intro b u h0 h1 hd r hr
    have e : b = bits := by omega
    subst e
    have := hr u (fun n hn => by
      have : ¬ (at_ + b ≤ (n : Int) ∧ (n : Int) < at_ + b) := by omega
      by_cases h1 : at_ + b ≤ (n : Int)
      · have : ¬ (n : Int) < at_ + b := by omega
        simp [this]
      · simp [h1])
    refine Tells.step (fun k => ?_) (by simpa using this)
    simp only [word_Right.l1]
    rw [if_neg (by omega)]
  | succ d ih =>
    intro b u h0 h1 hd r hr
    have hlt : b < bits := by omega
    have w1 : wrap64 (at_ + b) = at_ + b := wrap64_id (by unfold I64; omega)
    have w2 : wrap64 (b + 1) = b + 1 := wrap64_id (by unfold I64; omega)
    have er : List.range' b.toNat (bits.toNat - b.toNat) = b.toNat :: List.range' (b.toNat + 1) (bits.toNat - (b + 1).toNat) := by
      rw [show bits.toNat - b.toNat = (bits.toNat - (b + 1).toNat) + 1 by omega, List.range'_succ]
    by_cases hb : bit u (at_.toNat + b.toNat) = true
    · have hc : ¬ (Go.bits .and .u64 u (shl .u64 1 (at_ + b)) = 0) := fun h => by
        have := (and_shl_zero u (p := at_ + b) (by omega) (by omega)).1 h
        rw [show (at_ + b).toNat = at_.toNat + b.toNat by omega, hb] at this
        cases this
      rw [er, List.all_cons, hb]
      simp only [Bool.not_true, Bool.false_and]
      refine Tells.step (g := fun _ => some false) (fun k => ?_) (Tells.of fun _ => rfl)
      simp only [word_Right.l1]
      rw [if_pos hlt, w1, if_pos (by omega), if_neg hc]
    · have hb' : bit u (at_.toNat + b.toNat) = false := by simpa using hb
      have hc : Go.bits .and .u64 u (shl .u64 1 (at_ + b)) = 0 := (and_shl_zero u (p := at_ + b) (by omega) (by omega)).2 (by rw [show (at_ + b).toNat = at_.toNat + b.toNat by omega]; exact hb')
      have hnew : ∀ n, bit (Go.bits .or .u64 u (shl .u64 1 (at_ + b))) n = (bit u n || decide ((at_ + b).toNat = n)) := fun n => by rw [bit_or (.inr rfl), bit_shl_one (.inr rfl) (by omega) (by omega)]
      have := ih (b + 1) (Go.bits .or .u64 u (shl .u64 1 (at_ + b))) (by omega) (by omega) (by omega) r (fun u' hu' => hr u' (fun n hn => by
        rw [hu' n hn, hnew]
        by_cases e : (at_ + b).toNat = n
        · subst e
          rw [decide_eq_true rfl, decide_eq_true (show at_ + b ≤ (((at_ + b).toNat : Nat) : Int) by omega), decide_eq_true (show (((at_ + b).toNat : Nat) : Int) < at_ + bits by omega), Bool.or_true, Bool.true_or, Bool.and_true, Bool.or_true]
        · by_cases h' : at_ + (b + 1) ≤ (n : Int)
          · have : at_ + b ≤ (n : Int) := by omega
            simp [h', this, e]
          · have : ¬ at_ + b ≤ (n : Int) := by omega
            simp [h', this, e]))
      rw [er, List.all_cons, hb']
      have ea : (List.range' (b.toNat + 1) (bits.toNat - (b + 1).toNat)).all (fun c => !bit u (at_.toNat + c)) = (List.range' (b + 1).toNat (bits.toNat - (b + 1).toNat)).all (fun c => !bit (Go.bits .or .u64 u (shl .u64 1 (at_ + b))) (at_.toNat + c)) := by
        rw [show b.toNat + 1 = (b + 1).toNat by omega]
        apply all_same
        intro c hc
        have := List.mem_range'_1.1 hc
        rw [hnew]
        have : ¬ ((at_ + b).toNat = at_.toNat + c) := by omega
        simp [this]
      simp only [Bool.not_false, Bool.true_and]
      rw [ea]
      refine Tells.step (fun k => ?_) this
      simp only [word_Right.l1]
      rw [if_pos hlt, w1, if_pos (by omega), if_pos hc, w2]
theorem right_loop (l : List S26) (hl : l.length ≤ 1152921504606846976) (hw : ∀ f ∈ l, I64 f.f1) : ∀ (d i : Nat) (u : Int), i ≤ l.length → l.length - i = d → Tells (fun k => word_Right.l0 k u l (l.length : Int) (i : Int)) (rightFrom (bit u) (l.drop i)) := by
  intro d
  induction d with
  | zero =>
    intro i u hi hd
    have e : i = l.length := by omega
    subst e
    rw [List.drop_length]
    refine Tells.step (g := fun _ => some true) (fun k => ?_) (Tells.of fun _ => rfl)
    simp only [word_Right.l0]
    rw [if_neg (by omega)]
  | succ d ih =>
    intro i u hi hd
    have hlt : i < l.length := by omega
    have w2 : wrap64 ((i : Int) + 1) = ((i + 1 : Nat) : Int) := by rw [wrap64_id (by unfold I64; omega)]; push_cast; rfl
    have er : rd_T26 l (i : Int) = l[i] := by unfold rd_T26; simp [List.getD_eq_getElem?_getD, List.getElem?_eq_getElem hlt]
    have hwf := hw l[i] (List.getElem_mem hlt)
    rw [List.drop_eq_getElem_cons hlt]
    unfold rightFrom
    by_cases hm : May l[i].f0 l[i].f1
    · have hm' := hm
      unfold May at hm'
      have := right_inner (l := l) (N := (l.length : Int)) (i := (i : Int)) hm l[i].f1.toNat 0 u (by omega) (by omega) (by omega)
        (rightFrom (fun n => bit u n || (decide (l[i].f0 ≤ n) && decide ((n : Int) < l[i].f0 + l[i].f1))) (l.drop (i + 1))) (fun u' hu' => by
          have h := ih (i + 1) u' (by omega) (by omega)
          rw [w2]
          rw [rightFrom_congr (u' := fun n => bit u n || (decide (l[i].f0 ≤ n) && decide ((n : Int) < l[i].f0 + l[i].f1))) (fun n hn => by rw [hu' n hn, Int.add_zero])] at h
          exact h)
      simp only [hm, decide_true, Bool.true_and]
      have e0 : (0 : Int).toNat = 0 := rfl
      rw [e0, Nat.sub_zero, ← List.range_eq_range'] at this
      refine Tells.step (fun k => ?_) this
      simp only [word_Right.l0]
      rw [if_pos (by omega), if_pos (by omega), if_pos (by omega), er, may_is hwf]
      simp only [hm, decide_true, Option.bind_some, if_true]
    · simp only [hm, decide_false, Bool.false_and]
      refine Tells.step (g := fun _ => some false) (fun k => ?_) (Tells.of fun _ => rfl)
      simp only [word_Right.l0]
      rw [if_pos (by omega), if_pos (by omega), if_pos (by omega), er, may_is hwf]
      simp [hm]
theorem right_is (l : List S26) (hl : l.length ≤ 1152921504606846976) (hw : ∀ f ∈ l, I64 f.f1) : Tells (fun k => word_Right.f k l) (rightFrom (fun _ => false) l) := by
  have h := right_loop l hl hw l.length 0 0 (by omega) (by omega)
  rw [List.drop_zero, rightFrom_congr (u' := fun _ => false) (fun n _ => bit_0 n)] at h
  exact Tells.congr (fun k => rfl) h
theorem Tells.mono {α : Type} {f : Nat → Option α} {r : α} (hm : ∀ k, LeO (f k) (f (k + 1))) {K : Nat} (h : f K = some r) : Tells f r :=
  ⟨K, fun k hk => by
    obtain ⟨d, rfl⟩ : ∃ d, k = K + d := ⟨k - K, by omega⟩
    induction d with
    | zero => exact h
    | succ d ih => exact hm (K + d) r (ih (by omega))⟩
theorem awake_is : Tells (fun k => butlerlaw01_awake.f k) true := Tells.mono (f := fun k => butlerlaw01_awake.f k) butlerlaw01_awake.mono (K := 70) (by decide +kernel)
end Go.Proofs.Ytodfbhogfakieaa.FWordAsks

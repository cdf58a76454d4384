/- That the printed function of WordWhole answers true at every input: fields side by side from the lowest bit on hold an int as a whole. -/
import Derived.Test.YtodfbhogfakieaaFWordWhole
namespace Go.Proofs.Ytodfbhogfakieaa.Pure
open Go.RowKit Go.Proofs.Ytodfbhogfakieaa.PWordWhole Go.Proofs.YtodfbhogfakieaaW.PrintWords Go.Proofs.YtodfbhogfakieaaW.PrintLast Go.Proofs.YtodfbhogfakieaaW.PrintMore Go.Proofs.Ytodfbhogfakieaa.Math Go.Proofs.Ytodfbhogfakieaa.FWordWhole
set_option linter.unusedVariables false

/-- Fields side by side, from bit a to bit b. -/
def Side : Int → List S26 → Int → Prop
  | a, [], b => a = b
  | a, f :: l, b => f.f0 = a ∧ 1 ≤ f.f1 ∧ f.f1 ≤ 16 ∧ Side (a + f.f1) l b
theorem Side.snoc {n : Int} (h1 : 1 ≤ n) (h2 : n ≤ 16) {b : Int} : ∀ {l : List S26} {a : Int}, Side a l b → Side a (l ++ [⟨b, n⟩]) (b + n)
  | [], a, h => by
    have e : a = b := h
    subst e
    exact ⟨rfl, h1, h2, rfl⟩
  | f :: l, a, h => ⟨h.1, h.2.1, h.2.2.1, Side.snoc h1 h2 h.2.2.2⟩
theorem Side.len {b : Int} : ∀ {l : List S26} {a : Int}, Side a l b → a + l.length ≤ b
  | [], a, h => by
    have e : a = b := h
    simp [e]
  | f :: l, a, h => by
    have := Side.len h.2.2.2
    have := h.2.1
    simp only [List.length_cons]
    push_cast
    omega
theorem Side.mem {b : Int} : ∀ {l : List S26} {a : Int}, Side a l b → ∀ f ∈ l, 1 ≤ f.f1 ∧ f.f1 ≤ 16
  | [], a, h => by simp
  | g :: l, a, h => fun f hf => by
    rcases List.mem_cons.1 hf with rfl | hf
    · exact ⟨h.2.1, h.2.2.1⟩
    · exact Side.mem h.2.2.2 f hf
theorem Side.right {b : Int} (hb : b ≤ 63) : ∀ {l : List S26} {a : Int} {u : Nat → Bool}, 0 ≤ a → Side a l b → (∀ n, u n = true → (n : Int) < a) → rightFrom u l = true
  | [], a, u, h0, h, hu => rfl
  | f :: l, a, u, h0, h, hu => by
    obtain ⟨e, h1, h2, hl⟩ := h
    have hlen := Side.len hl
    unfold rightFrom
    have hm : May f.f0 f.f1 := by unfold May; omega
    have ha : (List.range f.f1.toNat).all (fun b => !u (f.f0.toNat + b)) = true := by
      rw [List.all_eq_true]
      intro c hc
      cases hc' : u (f.f0.toNat + c) with
      | false => rfl
      | true =>
        have := hu _ hc'
        omega
    rw [decide_eq_true hm, ha, Bool.true_and, Bool.true_and]
    refine Side.right hb (a := a + f.f1) (by omega) hl (fun n hn => ?_)
    rcases Bool.or_eq_true_iff.1 hn with hn | hn
    · have := hu n hn
      omega
    · have := (Bool.and_eq_true_iff.1 hn).2
      have := of_decide_eq_true this
      omega

theorem whole_loop {x : Int} {A B : Bool} {b : Int} (hb : b ≤ 63) (hx : I64 x) (hxb : ∀ n : Nat, b ≤ n → bit x n = false) (pre : List S26) :
    ∀ (l : List S26) (i : Nat) (a y : Int), pre.drop i = l → i ≤ pre.length → pre.length ≤ 63 → 0 ≤ a → Side a l b → I64 y → (∀ n, n < 64 → bit y n = (decide ((n : Int) < a) && bit x n)) →
      Tells (fun k => butlerlaw01_WordWhole.l1 k x A pre B y (i : Int)) (A && B) := by
  intro l
  induction l with
  | nil =>
    intro i a y hd hi hlen h0 hs hy hbits
    have e : a = b := hs
    subst e
    have hil : i = pre.length := by
      have := congrArg List.length hd
      simp at this
      omega
    have ey : y = x := i64_inj hy hx (bit_ext fun n hn => by
      rw [hbits n hn]
      by_cases h : (n : Int) < a
      · simp [h]
      · rw [hxb n (by omega)]; simp)
    subst ey
    refine Tells.step (g := fun _ => some (A && B)) (fun k => ?_) (Tells.of fun _ => rfl)
    simp only [butlerlaw01_WordWhole.l1]
    rw [if_neg (by omega)]
    cases A <;> cases B <;> simp
  | cons f l ih =>
    intro i a y hd hi hlen h0 hs hy hbits
    obtain ⟨e, h1, h2, hl⟩ := hs
    have hlt : i < pre.length := by
      have := congrArg List.length hd
      simp at this
      omega
    have hlen' := Side.len hl
    have hm : May f.f0 f.f1 := by unfold May; omega
    have er : rd_T26 pre (i : Int) = f := by
      unfold rd_T26
      have h3 : pre[i]? = some f := by
        have := List.getElem?_drop (xs := pre) (i := i) (j := 0)
        rw [hd] at this
        simpa using this.symm
      simp [List.getD_eq_getElem?_getD, h3]
    obtain ⟨g, hg, kg⟩ := get_may x hm
    have hgr := getIs_range hm hg
    obtain ⟨z, hz, kz⟩ := put_fits y (at_ := f.f0) (bits := f.f1) (v := g) ⟨hm, hgr.1, hgr.2⟩
    have hnext := ih (i + 1) (a + f.f1) z (by rw [← List.drop_drop, hd]; rfl) (by omega) hlen (by omega) hl hz.1 (fun n hn => by
      rw [hz.2 n hn]
      by_cases hin : f.f0 ≤ (n : Int) ∧ (n : Int) < f.f0 + f.f1
      · rw [if_pos hin, hg.2 _ (by omega), decide_eq_true (show (((n - f.f0.toNat : Nat)) : Int) < f.f1 by omega), decide_eq_true (show (n : Int) < a + f.f1 by omega), show f.f0.toNat + (n - f.f0.toNat) = n by omega]
      · rw [if_neg hin, hbits n hn]
        by_cases h3 : (n : Int) < a
        · rw [decide_eq_true h3, decide_eq_true (show (n : Int) < a + f.f1 by omega)]
        · rw [decide_eq_false h3, decide_eq_false (show ¬ (n : Int) < a + f.f1 by omega)])
    refine Tells.step (g := fun k => ((word_Get.f k x f.f0 f.f1).bind fun t126 => ((word_Put.f k y f.f0 f.f1 t126).bind fun bt127 => (if bt127.2 = 0 then (butlerlaw01_WordWhole.l1 k x A pre B bt127.1 (wrap64 ((i : Int) + 1))) else (some false))))) (fun k => ?_) ?_
    · simp only [butlerlaw01_WordWhole.l1]
      rw [if_pos (by omega), if_pos (by omega), er]
    · refine Tells.bind kg (Tells.bind (g := fun k bt127 => (if bt127.2 = 0 then (butlerlaw01_WordWhole.l1 k x A pre B bt127.1 (wrap64 ((i : Int) + 1))) else (some false))) kz ?_)
      have ew : wrap64 ((i : Int) + 1) = ((i + 1 : Nat) : Int) := by rw [wrap64_id (by unfold I64; omega)]; push_cast; rfl
      rw [ew]
      exact Tells.congr (fun k => if_pos rfl) hnext

theorem whole_end {x : Int} {A : Bool} {pre : List S26} {b : Int} (hA : A = true) (h0 : 0 ≤ b) (hb : b ≤ 63) (hs : Side 0 pre b) : Tells (fun k => butlerlaw01_WordWhole.j1 k x A pre b) true := by
  subst hA
  have hlen := Side.len hs
  have hr : rightFrom (fun _ => false) pre = true := Side.right hb (by omega) hs (fun n h => by cases h)
  have hR := right_is pre (by omega) (fun f hf => by have := Side.mem hs f hf; unfold I64; omega)
  rw [hr] at hR
  refine Tells.step (g := fun k => (word_Right.f k pre).bind fun t123 => (if 0 ≤ b then (butlerlaw01_WordWhole.l1 k (Go.bits .and .i64 x (wrap64 ((shl .i64 1 b) - 1))) true pre t123 0 0) else (none))) (fun k => by simp only [butlerlaw01_WordWhole.j1]) ?_
  refine Tells.bind hR (Tells.congr (fun k => if_pos h0) ?_)
  have := whole_loop (A := true) (B := true) hb (i64_bits .and x (wrap64 ((shl .i64 1 b) - 1))) (fun n hn => by
    by_cases h64 : n < 64
    · rw [bit_and (.inl rfl), bit_low h0 hb h64, decide_eq_false (show ¬ n < b.toNat by omega), Bool.and_false]
    · exact bit_over _ (by omega)) pre pre 0 0 0 (by simp) (by omega) (by omega) (by omega) hs (by unfold I64; omega) (fun n hn => by
      rw [bit_0, decide_eq_false (show ¬ (n : Int) < 0 by omega), Bool.false_and])
  exact this

theorem whole_make {x : Int} {A : Bool} {xs : List Int} (hA : A = true) (hl : xs.length ≤ 1152921504606846976) : ∀ (d i : Nat) (l : List S26) (a : Int), i ≤ xs.length → xs.length - i = d → 0 ≤ a → a ≤ 63 → Side 0 l a →
    Tells (fun k => butlerlaw01_WordWhole.l0 k x xs A l a (i : Int)) true := by
  intro d
  induction d with
  | zero =>
    intro i l a hi hd h0 h1 hs
    refine Tells.step (fun k => ?_) (whole_end (x := x) hA h0 h1 hs)
    simp only [butlerlaw01_WordWhole.l0]
    rw [if_neg (by omega)]
  | succ d ih =>
    intro i l a hi hd h0 h1 hs
    obtain ⟨m0, m1⟩ := and_15 (rd xs (i : Int))
    have w1 : wrap64 (1 + (Go.bits .and .i64 (rd xs (i : Int)) 15)) = 1 + (Go.bits .and .i64 (rd xs (i : Int)) 15) := wrap64_id (by unfold I64; omega)
    generalize hn : 1 + (Go.bits .and .i64 (rd xs (i : Int)) 15) = n at w1
    have w2 : wrap64 (a + n) = a + n := wrap64_id (by unfold I64; omega)
    have ew : wrap64 ((i : Int) + 1) = ((i + 1 : Nat) : Int) := by rw [wrap64_id (by unfold I64; omega)]; push_cast; rfl
    have hlen := Side.len hs
    by_cases hbreak : a + n > 63
    · refine Tells.step (fun k => ?_) (whole_end (x := x) hA h0 h1 hs)
      simp only [butlerlaw01_WordWhole.l0]
      rw [if_pos (by omega), if_pos (by omega), hn, w1, w2, if_pos hbreak]
    · refine Tells.step (fun k => ?_) (ih (i + 1) (l ++ [⟨a, n⟩]) (a + n) (by omega) (by omega) (by omega) (by omega) (Side.snoc (by omega) (by omega) hs))
      simp only [butlerlaw01_WordWhole.l0]
      rw [if_pos (by omega), if_pos (by omega), hn, w1, w2, if_neg hbreak, if_pos (by omega), ew]

theorem WordWhole : butlerlaw01_WordWhole.Pure := by
  intro x xs hx hlen hbytes hwf
  have h := Tells.bind (g := fun k t118 => butlerlaw01_WordWhole.l0 k x xs t118 ([] : List S26) 0 0) awake_is (whole_make (x := x) (xs := xs) rfl (by omega) xs.length 0 [] 0 (by omega) (by omega) (by omega) (by omega) rfl)
  exact Tells.val (Tells.congr (fun k => rfl) h)

end Go.Proofs.Ytodfbhogfakieaa.Pure

/- Plain facts on words of 64 bits, as numbers and as bits: no program in sight. -/
import Derived.Test.YtodfbhogfakieaaWMore
namespace Go.Proofs.Ytodfbhogfakieaa.Math
open Go.RowKit Go.Proofs.YtodfbhogfakieaaW.PrintWords Go.Proofs.YtodfbhogfakieaaW.PrintLast Go.Proofs.YtodfbhogfakieaaW.PrintMore
set_option linter.unusedVariables false
set_option linter.unusedSimpArgs false

/-- A number's 64 bits. -/
def bv (x : Int) : BitVec 64 := BitVec.ofInt 64 x
def I64 (x : Int) : Prop := -9223372036854775808 ≤ x ∧ x ≤ 9223372036854775807
def U64 (x : Int) : Prop := 0 ≤ x ∧ x < 18446744073709551616
def IsW (k : IntKind) : Prop := k = .i64 ∨ k = .u64

theorem bv_eq {a b : Int} : bv a = bv b ↔ a % 18446744073709551616 = b % 18446744073709551616 := by
  unfold bv
  constructor
  · intro h
    have := congrArg BitVec.toNat h
    rw [BitVec.toNat_ofInt, BitVec.toNat_ofInt] at this
    simp at this
    omega
  · intro h
    apply BitVec.eq_of_toNat_eq
    rw [BitVec.toNat_ofInt, BitVec.toNat_ofInt]
    simp
    omega

theorem i64_inj {a b : Int} (ha : I64 a) (hb : I64 b) (h : bv a = bv b) : a = b := by
  have := bv_eq.1 h
  unfold I64 at ha hb
  omega
theorem u64_inj {a b : Int} (ha : U64 a) (hb : U64 b) (h : bv a = bv b) : a = b := by
  have := bv_eq.1 h
  unfold U64 at ha hb
  omega
theorem bv_wrap64 (n : Int) : bv (wrap64 n) = bv n := bv_eq.2 (by unfold wrap64; omega)
theorem i64_wrap64 (n : Int) : I64 (wrap64 n) := by unfold wrap64 I64; omega
theorem wrap_u64 (n : Int) : IntKind.u64.wrap n = n % 18446744073709551616 := by simp [IntKind.wrap, IntKind.bits, IntKind.signed]
theorem bv_wrapk {k : IntKind} (hk : IsW k) (n : Int) : bv (k.wrap n) = bv n := by
  rcases hk with rfl | rfl
  · rw [IntKind.wrap_i64]; exact bv_eq.2 (by omega)
  · rw [wrap_u64]; exact bv_eq.2 (by omega)
theorem bits_64 {k : IntKind} (hk : IsW k) : k.bits = 64 := by rcases hk with rfl | rfl <;> rfl
theorem i64_wrapi (n : Int) : I64 (IntKind.i64.wrap n) := by rw [IntKind.wrap_i64]; unfold I64; omega
theorem u64_wrapu (n : Int) : U64 (IntKind.u64.wrap n) := by rw [wrap_u64]; unfold U64; omega
theorem wrap64_id {n : Int} (h : I64 n) : wrap64 n = n := by unfold wrap64; unfold I64 at h; omega
theorem wrapi_id {n : Int} (h : I64 n) : IntKind.i64.wrap n = n := by rw [IntKind.wrap_i64]; unfold I64 at h; omega
theorem wrapu_id {n : Int} (h : U64 n) : IntKind.u64.wrap n = n := by rw [wrap_u64]; unfold U64 at h; omega
theorem bv_natCast (n : Nat) : bv (n : Int) = BitVec.ofNat 64 n := by unfold bv; exact BitVec.ofInt_natCast 64 n
theorem bv_toNat (v : BitVec 64) : bv (v.toNat : Int) = v := by rw [bv_natCast]; simp
theorem bv_0 : bv 0 = 0#64 := rfl
theorem bv_1 : bv 1 = 1#64 := rfl

theorem bv_and {k : IntKind} (hk : IsW k) (a b : Int) : bv (Go.bits .and k a b) = bv a &&& bv b := by
  rcases hk with rfl | rfl
  · unfold Go.bits; rw [bv_wrapk (.inl rfl)]; exact bv_toNat _
  · unfold Go.bits; rw [bv_wrapk (.inr rfl)]; exact bv_toNat _
theorem bv_or {k : IntKind} (hk : IsW k) (a b : Int) : bv (Go.bits .or k a b) = bv a ||| bv b := by
  rcases hk with rfl | rfl
  · unfold Go.bits; rw [bv_wrapk (.inl rfl)]; exact bv_toNat _
  · unfold Go.bits; rw [bv_wrapk (.inr rfl)]; exact bv_toNat _
theorem bv_andNot {k : IntKind} (hk : IsW k) (a b : Int) : bv (Go.bits .andNot k a b) = bv a &&& ~~~ bv b := by
  rcases hk with rfl | rfl
  · unfold Go.bits; rw [bv_wrapk (.inl rfl)]; exact bv_toNat _
  · unfold Go.bits; rw [bv_wrapk (.inr rfl)]; exact bv_toNat _
theorem i64_bits (op : BinOp) (a b : Int) : I64 (Go.bits op .i64 a b) := by unfold Go.bits; exact i64_wrapi _
theorem u64_bits (op : BinOp) (a b : Int) : U64 (Go.bits op .u64 a b) := by unfold Go.bits; exact u64_wrapu _

/-- Bit n of x. -/
def bit (x : Int) (n : Nat) : Bool := (bv x).getLsbD n

theorem bit_ext {a b : Int} (h : ∀ n, n < 64 → bit a n = bit b n) : bv a = bv b := BitVec.eq_of_getLsbD_eq h
theorem bit_over (x : Int) {n : Nat} (h : 64 ≤ n) : bit x n = false := BitVec.getLsbD_of_ge _ _ h
theorem bit_0 (n : Nat) : bit 0 n = false := by unfold bit; rw [bv_0]; simp
theorem bit_congr {a b : Int} (h : bv a = bv b) (n : Nat) : bit a n = bit b n := by unfold bit; rw [h]
theorem bit_and {k : IntKind} (hk : IsW k) (a b : Int) (n : Nat) : bit (Go.bits .and k a b) n = (bit a n && bit b n) := by unfold bit; rw [bv_and hk]; simp
theorem bit_or {k : IntKind} (hk : IsW k) (a b : Int) (n : Nat) : bit (Go.bits .or k a b) n = (bit a n || bit b n) := by unfold bit; rw [bv_or hk]; simp
theorem bit_andNot {k : IntKind} (hk : IsW k) (a b : Int) {n : Nat} (hn : n < 64) : bit (Go.bits .andNot k a b) n = (bit a n && !bit b n) := by unfold bit; rw [bv_andNot hk]; simp [hn]

/-- A power of 2, mod 2^64, has one bit. -/
theorem bv_pow (p : Nat) : bv ((2 : Int) ^ p) = BitVec.twoPow 64 p := by
  have e : ((2 : Int) ^ p) = ((2 ^ p : Nat) : Int) := by push_cast; rfl
  rw [e, bv_natCast]
  apply BitVec.eq_of_toNat_eq
  rw [BitVec.toNat_twoPow, BitVec.toNat_ofNat]
theorem bit_pow {p n : Nat} (hp : p < 64) : bit ((2 : Int) ^ p) n = decide (p = n) := by
  unfold bit
  rw [bv_pow, BitVec.getLsbD_twoPow]
  simp [hp]
theorem shl_one {k : IntKind} (hk : IsW k) {p : Int} (h0 : 0 ≤ p) (h1 : p < 64) : bv (shl k 1 p) = bv ((2 : Int) ^ p.toNat) := by
  unfold shl
  rw [bv_wrapk hk, bits_64 hk, Nat.min_eq_left (by omega), Int.one_mul]
theorem bit_shl_one {k : IntKind} (hk : IsW k) {p : Int} (h0 : 0 ≤ p) (h1 : p < 64) (n : Nat) : bit (shl k 1 p) n = decide (p.toNat = n) := by
  rw [bit_congr (shl_one hk h0 h1), bit_pow (by omega)]

/-- Bit n, by division. -/
theorem bit_nat (v : Nat) (n : Nat) (hn : n < 64) : bit (v : Int) n = decide (v / 2 ^ n % 2 = 1) := by
  unfold bit
  rw [bv_natCast, BitVec.getLsbD_ofNat]
  simp [hn, Nat.testBit_eq_decide_div_mod_eq]
theorem bit_div_pos (x : Int) (h0 : 0 ≤ x) (n : Nat) (hn : n < 64) : bit x n = decide (x / 2 ^ n % 2 = 1) := by
  obtain ⟨v, rfl⟩ := Int.eq_ofNat_of_zero_le h0
  rw [bit_nat v n hn]
  have : ((v : Int) / 2 ^ n % 2 = 1) ↔ (v / 2 ^ n % 2 = 1) := by
    have e : ((v : Int) / 2 ^ n % 2) = ((v / 2 ^ n % 2 : Nat) : Int) := by push_cast; rfl
    rw [e]; omega
  simp [this]
theorem pow_split {n : Nat} (hn : n < 64) : (18446744073709551616 : Int) = 2 ^ n * (2 * 2 ^ (63 - n)) := by
  have h : (18446744073709551616 : Int) = 2 ^ (n + (1 + (63 - n))) := by
    rw [show n + (1 + (63 - n)) = 64 by omega]; rfl
  rw [h, Int.pow_add, Int.pow_add]; rfl
theorem bit_div (x : Int) (n : Nat) (hn : n < 64) : bit x n = decide (x / 2 ^ n % 2 = 1) := by
  have h1 : bit x n = bit (x % 18446744073709551616) n := bit_congr (bv_eq.2 (by omega)) n
  rw [h1, bit_div_pos _ (by omega) n hn]
  have hx : x = x % 18446744073709551616 + 2 ^ n * ((2 * 2 ^ (63 - n)) * (x / 18446744073709551616)) := by
    have := pow_split hn
    rw [← Int.mul_assoc, ← this]; omega
  have hp : (2 : Int) ^ n ≠ 0 := by
    have : (0 : Int) < 2 ^ n := Int.pow_pos (by decide)
    omega
  have h2 : x / 2 ^ n = x % 18446744073709551616 / 2 ^ n + (2 * 2 ^ (63 - n)) * (x / 18446744073709551616) := by
    conv => lhs; rw [hx]
    exact Int.add_mul_ediv_left _ _ hp
  have h3 : x / 2 ^ n % 2 = x % 18446744073709551616 / 2 ^ n % 2 := by
    rw [h2, Int.mul_assoc]; omega
  rw [h3]
theorem shr_and_one {k : IntKind} (hk : IsW k) (x : Int) {p : Int} (h0 : 0 ≤ p) (h1 : p < 64) : (Go.bits .and k (shr k x p) 1 = 1) ↔ bit x p.toNat = true := by
  have hb : bit (shr k x p) 0 = bit x p.toNat := by
    unfold shr
    rw [bits_64 hk, Nat.min_eq_left (by omega), bit_div _ _ (by omega), bit_div _ _ (by omega)]
    simp
  have e : bv (Go.bits .and k (shr k x p) 1) = if bit x p.toNat = true then bv 1 else bv 0 := by
    apply BitVec.eq_of_getLsbD_eq
    intro n hn
    have h : bit (Go.bits .and k (shr k x p) 1) n = (bit (shr k x p) n && bit 1 n) := bit_and hk _ _ _
    have h1' : bit 1 n = decide (0 = n) := bit_pow (p := 0) (by omega)
    unfold bit at h h1' hb
    rw [h, h1']
    by_cases hn0 : n = 0
    · subst hn0
      rw [hb]; unfold bit
      cases (bv x).getLsbD p.toNat <;> simp [bv_0, bv_1]
    · have h0n : decide (0 = n) = false := by simp; omega
      have h1n : (bv 1).getLsbD n = false := by rw [h1', h0n]
      have hcase : ∀ b : Bool, (if b = true then bv 1 else bv 0).getLsbD n = false := fun b => by
        cases b
        · simp [bv_0]
        · simpa using h1n
      rw [hcase, h0n, Bool.and_false]
  have hr : I64 (Go.bits .and k (shr k x p) 1) ∨ U64 (Go.bits .and k (shr k x p) 1) := by
    rcases hk with rfl | rfl
    · exact .inl (i64_bits _ _ _)
    · exact .inr (u64_bits _ _ _)
  cases hbx : bit x p.toNat with
  | true =>
    rw [hbx] at e
    simp only [if_true] at e
    simp only [iff_true]
    rcases hr with hr | hr
    · exact i64_inj hr (by unfold I64; omega) e
    · exact u64_inj hr (by unfold U64; omega) e
  | false =>
    rw [hbx] at e
    simp only [Bool.false_eq_true, if_false] at e
    simp only [Bool.false_eq_true, iff_false]
    intro h
    rw [h] at e
    have := bv_eq.1 e
    omega
/-- One bit, looked at by a mask. -/
theorem and_shl_zero (x : Int) {p : Int} (h0 : 0 ≤ p) (h1 : p < 64) : (Go.bits .and .u64 x (shl .u64 1 p) = 0) ↔ bit x p.toNat = false := by
  constructor
  · intro h
    have := bit_and (k := .u64) (.inr rfl) x (shl .u64 1 p) p.toNat
    rw [h, bit_0, bit_shl_one (.inr rfl) h0 h1] at this
    simpa using this.symm
  · intro h
    apply u64_inj (u64_bits _ _ _) (by unfold U64; omega)
    apply bit_ext
    intro n hn
    rw [bit_and (.inr rfl), bit_shl_one (.inr rfl) h0 h1, bit_0]
    by_cases e : p.toNat = n
    · subst e; simp [h]
    · simp [e]

/-- A number below 2^m has no bit at m or above. -/
theorem bit_small {v : Int} {m : Nat} (h0 : 0 ≤ v) (h : v < 2 ^ m) {n : Nat} (hn : m ≤ n) : bit v n = false := by
  by_cases h64 : n < 64
  · rw [bit_div_pos v h0 n h64]
    have hp : (2 : Int) ^ m ≤ 2 ^ n := by
      have : (2 : Nat) ^ m ≤ 2 ^ n := Nat.pow_le_pow_right (by decide) hn
      exact_mod_cast this
    have : v / 2 ^ n = 0 := Int.ediv_eq_zero_of_lt h0 (by omega)
    rw [this]; rfl
  · exact bit_over _ (by omega)
/-- .. and the other way. -/
theorem small_of_bits {v : Int} {m : Nat} (h0 : 0 ≤ v) (hv : v < 18446744073709551616) (h : ∀ n, m ≤ n → bit v n = false) : v < 2 ^ m := by
  obtain ⟨u, rfl⟩ := Int.eq_ofNat_of_zero_le h0
  have hu : u < 2 ^ 64 := by have : ((u : Nat) : Int) < 18446744073709551616 := hv; omega
  have : u < 2 ^ m := by
    apply Nat.lt_pow_two_of_testBit
    intro i hi
    by_cases h64 : i < 64
    · have hb := h i hi
      rw [bit_nat u i h64] at hb
      rw [Nat.testBit_eq_decide_div_mod_eq]; exact hb
    · exact Nat.testBit_lt_two_pow (Nat.lt_of_lt_of_le hu (Nat.pow_le_pow_right (by decide) (by omega)))
  exact_mod_cast this
/-- v >> m is nothing: v is below 2^m. -/
theorem shr_zero {v m : Int} (h0 : 0 ≤ v) (hm0 : 0 ≤ m) (hm : m ≤ 62) : shr .i64 v m = 0 ↔ v < 2 ^ m.toNat := by
  unfold shr
  rw [show IntKind.i64.bits = 64 from rfl, Nat.min_eq_left (by omega)]
  have hp : (0 : Int) < 2 ^ m.toNat := Int.pow_pos (by decide)
  constructor
  · intro h
    have := Int.emod_add_mul_ediv v (2 ^ m.toNat)
    rw [h] at this
    have := Int.emod_lt_of_pos v hp
    omega
  · intro h; exact Int.ediv_eq_zero_of_lt h0 h
theorem shl_le {v m : Int} (hm0 : 0 ≤ m) (hm : m ≤ 62) : (v ≥ shl .i64 1 m) ↔ ¬ v < 2 ^ m.toNat := by
  have hp : (2 : Int) ^ m.toNat ≤ 2 ^ 62 := by
    have : (2 : Nat) ^ m.toNat ≤ 2 ^ 62 := Nat.pow_le_pow_right (by decide) (by omega)
    exact_mod_cast this
  have hp0 : (0 : Int) < 2 ^ m.toNat := Int.pow_pos (by decide)
  unfold shl
  rw [show IntKind.i64.bits = 64 from rfl, Nat.min_eq_left (by omega), Int.one_mul, wrapi_id (by unfold I64; omega)]
  omega
/-- The mask of m bits from p on. -/
theorem bit_mask {m p : Int} (hm0 : 0 ≤ m) (hm : m ≤ 63) (hp0 : 0 ≤ p) (hp : p < 64) {n : Nat} (hn : n < 64) :
    bit (shl .i64 (wrap64 (shl .i64 1 m - 1)) p) n = (decide (p.toNat ≤ n) && decide (n - p.toNat < m.toNat)) := by
  have e1 : bv (wrap64 (shl .i64 1 m - 1)) = BitVec.ofNat 64 (2 ^ m.toNat - 1) := by
    rw [bv_wrap64]
    have hs := bv_eq.1 (shl_one (k := .i64) (.inl rfl) hm0 (by omega))
    have hpos : (1 : Nat) ≤ 2 ^ m.toNat := Nat.one_le_two_pow
    rw [← bv_natCast]
    have hc : ((2 ^ m.toNat - 1 : Nat) : Int) = (2 : Int) ^ m.toNat - 1 := by
      rw [Int.natCast_sub hpos]; push_cast; rfl
    rw [hc]
    exact bv_eq.2 (by omega)
  generalize hq : wrap64 (shl .i64 1 m - 1) = q at e1 ⊢
  unfold shl
  rw [bit_congr (bv_wrapk (.inl rfl) _), show IntKind.i64.bits = 64 from rfl, Nat.min_eq_left (by omega)]
  have e2 : bv (q * 2 ^ p.toNat) = (BitVec.ofNat 64 (2 ^ m.toNat - 1)) <<< p.toNat := by
    rw [← e1]
    unfold bv
    rw [BitVec.ofInt_mul]
    rw [show BitVec.ofInt 64 ((2 : Int) ^ p.toNat) = BitVec.twoPow 64 p.toNat from bv_pow _]
    exact BitVec.mul_twoPow_eq_shiftLeft _ _
  unfold bit
  rw [e2, BitVec.getLsbD_shiftLeft, BitVec.getLsbD_ofNat, Nat.testBit_two_pow_sub_one]
  by_cases h : n < p.toNat
  · simp [h, hn]; omega
  · have h' : p.toNat ≤ n := by omega
    simp [h, hn, h']; omega

/-- The m lowest bits. -/
theorem bit_low {m : Int} (hm0 : 0 ≤ m) (hm : m ≤ 63) {n : Nat} (hn : n < 64) : bit (wrap64 (shl .i64 1 m - 1)) n = decide (n < m.toNat) := by
  have hs := bv_eq.1 (shl_one (k := .i64) (.inl rfl) hm0 (by omega))
  have hpos : (1 : Nat) ≤ 2 ^ m.toNat := Nat.one_le_two_pow
  have hc : ((2 ^ m.toNat - 1 : Nat) : Int) = (2 : Int) ^ m.toNat - 1 := by
    rw [Int.natCast_sub hpos]; push_cast; rfl
  have e1 : bv (wrap64 (shl .i64 1 m - 1)) = BitVec.ofNat 64 (2 ^ m.toNat - 1) := by
    rw [bv_wrap64, ← bv_natCast, hc]
    exact bv_eq.2 (by omega)
  unfold bit
  rw [e1, BitVec.getLsbD_ofNat, Nat.testBit_two_pow_sub_one]
  simp [hn]
/-- x & 15. -/
theorem and_15 (v : Int) : 0 ≤ Go.bits .and .i64 v 15 ∧ Go.bits .and .i64 v 15 ≤ 15 := by
  have h : (BitVec.ofInt IntKind.i64.bits v &&& BitVec.ofInt IntKind.i64.bits 15).toNat ≤ 15 := by
    rw [BitVec.toNat_and]
    exact Nat.and_le_right
  unfold Go.bits
  simp only
  rw [wrapi_id (by unfold I64; omega)]
  omega

/-- A bit put in at the lowest place. -/
theorem bit_acc0 {y t : Int} (hy : 0 ≤ y) (ht : t = 0 ∨ t = 1) : bit (2 * y + t) 0 = decide (t = 1) := by
  rw [bit_div_pos _ (by omega) 0 (by omega)]
  apply decide_eq_decide.2
  rw [Int.pow_zero, Int.ediv_one]
  omega
theorem bit_acc {y t : Int} (hy : 0 ≤ y) (ht : t = 0 ∨ t = 1) {n : Nat} (hn : n + 1 < 64) : bit (2 * y + t) (n + 1) = bit y n := by
  rw [bit_div_pos _ (by omega) (n + 1) hn, bit_div_pos _ hy n (by omega)]
  have e : (2 * y + t) / 2 ^ (n + 1) = y / 2 ^ n := by
    rw [Int.pow_succ, Int.mul_comm (2 ^ n) 2, ← Int.ediv_ediv_of_nonneg (by omega), show (2 * y + t) / 2 = y by omega]
  rw [e]
/-- x >> n & 1, as a number. -/
theorem bit_num (x : Int) {p : Int} (h0 : 0 ≤ p) (h1 : p < 64) : wrap64 (Go.bits .and .u64 (shr .u64 (IntKind.u64.wrap x) p) 1) = if bit x p.toNat = true then 1 else 0 := by
  have hiff := shr_and_one (k := .u64) (.inr rfl) (IntKind.u64.wrap x) h0 h1
  rw [bit_congr (bv_wrapk (.inr rfl) x)] at hiff
  have hr : Go.bits .and .u64 (shr .u64 (IntKind.u64.wrap x) p) 1 = 0 ∨ Go.bits .and .u64 (shr .u64 (IntKind.u64.wrap x) p) 1 = 1 := by
    have h : (BitVec.ofInt IntKind.u64.bits (shr .u64 (IntKind.u64.wrap x) p) &&& BitVec.ofInt IntKind.u64.bits 1).toNat ≤ 1 := by
      rw [BitVec.toNat_and]
      exact Nat.and_le_right
    unfold Go.bits
    simp only
    rw [wrapu_id (by unfold U64; omega)]
    omega
  by_cases hb : bit x p.toNat = true
  · rw [if_pos hb, hiff.2 hb]; exact wrap64_id (by unfold I64; omega)
  · rw [if_neg hb]
    rcases hr with h | h
    · rw [h]; exact wrap64_id (by unfold I64; omega)
    · exact absurd (hiff.1 h) hb

/-- A field that may be. -/
def May (at_ bits : Int) : Prop := 0 ≤ at_ ∧ 1 ≤ bits ∧ bits ≤ 62 ∧ at_ + bits ≤ 64
instance (a b : Int) : Decidable (May a b) := by unfold May; infer_instance
/-- r is what the field holds in x. -/
def GetIs (x at_ bits r : Int) : Prop := I64 r ∧ ∀ n, n < 64 → bit r n = (decide ((n : Int) < bits) && bit x (at_.toNat + n))
/-- y is x, in which the field holds v. -/
def PutIs (x at_ bits v y : Int) : Prop := I64 y ∧ ∀ n, n < 64 → bit y n = if at_ ≤ n ∧ (n : Int) < at_ + bits then bit v (n - at_.toNat) else bit x n

theorem getIs_unique {x at_ bits r s : Int} (h : GetIs x at_ bits r) (h' : GetIs x at_ bits s) : r = s :=
  i64_inj h.1 h'.1 (bit_ext fun n hn => by rw [h.2 n hn, h'.2 n hn])
theorem putIs_unique {x at_ bits v y z : Int} (h : PutIs x at_ bits v y) (h' : PutIs x at_ bits v z) : y = z :=
  i64_inj h.1 h'.1 (bit_ext fun n hn => by rw [h.2 n hn, h'.2 n hn])
theorem getIs_range {x at_ bits r : Int} (hm : May at_ bits) (h : GetIs x at_ bits r) : 0 ≤ r ∧ r < 2 ^ bits.toNat := by
  unfold May at hm
  have hb : ∀ n, bits.toNat ≤ n → bit r n = false := fun n hn => by
    by_cases h64 : n < 64
    · rw [h.2 n h64]
      have : ¬ ((n : Int) < bits) := by omega
      simp [this]
    · exact bit_over _ (by omega)
  have h63 := hb 63 (by omega)
  rw [bit_div r 63 (by omega)] at h63
  have hr := h.1
  unfold I64 at hr
  have h0 : 0 ≤ r := by
    have : ¬ (r / 2 ^ 63 % 2 = 1) := by simpa using h63
    have e : (2 : Int) ^ 63 = 9223372036854775808 := by decide
    rw [e] at this
    omega
  exact ⟨h0, small_of_bits h0 (by omega) hb⟩
end Go.Proofs.Ytodfbhogfakieaa.Math

/- Merged: Goes14. -/
import Derived.Test.YtoabkcalphpkhaaN39
import Derived.Test.YtoabkcalphpkhaaN40
import Derived.Test.YtoabkcalphpkhaaN32
import Derived.Deep.RegionHeld3
/- GateGoes: the law's walk. (Printed by gen_goes14.py.) -/
namespace Go.Proofs.Ytoabkcalphpkhaa
open Go Go.Conc Go.RowKit
open Go.Proofs.YtoabkcalphpkhaaW.PrintWords
set_option linter.unusedVariables false
set_option linter.unusedSimpArgs false
set_option linter.unusedSectionVars false
set_option maxRecDepth 100000

theorem i64_and7 (n : Int) : bits .and .i64 n 7 = n % 8 := by
  have h1 : (BitVec.ofInt 64 7).toNat = 2 ^ 3 - 1 := by decide
  have key : (BitVec.ofInt 64 n &&& BitVec.ofInt 64 7).toNat = (n % ((2 ^ 64 : Nat) : Int)).toNat % 2 ^ 3 := by
    rw [BitVec.toNat_and, BitVec.toNat_ofInt, h1, Nat.and_two_pow_sub_one_eq_mod]
  show IntKind.i64.wrap ((BitVec.ofInt 64 n &&& BitVec.ofInt 64 7).toNat : Nat) = n % 8
  rw [key, IntKind.wrap_i64]
  omega
/-- Rows of numbers, read. -/
def RawAt (u : World) (A : Option Addr) (raws : List (List Int)) : Prop :=
  ∀ (i : Nat) (l : List Int), raws[i]? = some l → l.length ≤ 9223372036854775807 ∧ ∃ ad B c, A = some ad ∧ u.cell? (ad.add i) = some (.slice B l.length c) ∧ ∀ k, k < l.length → ∃ bd, B = some bd ∧ u.cell? (bd.add k) = some (num (l.getD k 0))
theorem stuck_calls {w : World} {W : Nat} {b : Bool} (h : w.cell? ⟨W, 6, none⟩ = some (.bool b)) : Calls Try.prog 34 #[ptr W] w fun r u' => r = .returned (.bool b) ∧ u' = w := by
  go_enter Try.func34, Try.ntmps34
  go_wp2_with fail
  go_ret
  exact ⟨rfl, rfl⟩
/-- Plain functions of this law's tail. -/
def SSt : FuncId → Bool := fun f => (plainT ++ [34]).contains f
theorem plain_okSt : ((plainT ++ [34]).all fun f => bodied Try.prog f && (match (Try.prog.funcs[f]?).bind (·.body) with | some c => codeOk Try.prog false SSt c | none => false)) = true := by kernel_rfl
theorem listSt : ListOk Try.prog false SSt where
  bodied f hf := by
    have := List.all_eq_true.1 plain_okSt f (by simpa [SSt] using hf)
    simp only [Bool.and_eq_true] at this
    exact this.1
  code f hf c hc := by
    have := List.all_eq_true.1 plain_okSt f (by simpa [SSt] using hf)
    simp only [Bool.and_eq_true, hc] at this
    exact this.2
  ahead := by kernel_rfl
  ready g := list0.ready g
theorem slots14A {a : Act} {x0 x1 x2 x3 x4 x5 x6 x7 : Value} (hs : a.tmps.size = 133) (hd : a.defers = []) (h0 : a.tmps[0]? = some x0) (h1 : a.tmps[1]? = some x1) (h2 : a.tmps[2]? = some x2) (h3 : a.tmps[3]? = some x3) (h4 : a.tmps[4]? = some x4) (h5 : a.tmps[5]? = some x5) (h6 : a.tmps[6]? = some x6) (h7 : a.tmps[7]? = some x7) : ∃ vs : Nat → Value, a = { tmps := #[x0, x1, x2, x3, x4, x5, x6, x7, vs 8, vs 9, vs 10, vs 11, vs 12, vs 13, vs 14, vs 15, vs 16, vs 17, vs 18, vs 19, vs 20, vs 21, vs 22, vs 23, vs 24, vs 25, vs 26, vs 27, vs 28, vs 29, vs 30, vs 31, vs 32, vs 33, vs 34, vs 35, vs 36, vs 37, vs 38, vs 39, vs 40, vs 41, vs 42, vs 43, vs 44, vs 45, vs 46, vs 47, vs 48, vs 49, vs 50, vs 51, vs 52, vs 53, vs 54, vs 55, vs 56, vs 57, vs 58, vs 59, vs 60, vs 61, vs 62, vs 63, vs 64, vs 65, vs 66, vs 67, vs 68, vs 69, vs 70, vs 71, vs 72, vs 73, vs 74, vs 75, vs 76, vs 77, vs 78, vs 79, vs 80, vs 81, vs 82, vs 83, vs 84, vs 85, vs 86, vs 87, vs 88, vs 89, vs 90, vs 91, vs 92, vs 93, vs 94, vs 95, vs 96, vs 97, vs 98, vs 99, vs 100, vs 101, vs 102, vs 103, vs 104, vs 105, vs 106, vs 107, vs 108, vs 109, vs 110, vs 111, vs 112, vs 113, vs 114, vs 115, vs 116, vs 117, vs 118, vs 119, vs 120, vs 121, vs 122, vs 123, vs 124, vs 125, vs 126, vs 127, vs 128, vs 129, vs 130, vs 131, vs 132], defers := [] } := by
  obtain ⟨⟨l⟩, d⟩ := a
  obtain rfl : d = [] := hd
  have hl : l.length = 133 := hs
  obtain ⟨f, hf⟩ : ∃ f : Nat → Value, f = fun n => l[n]?.getD undef := ⟨_, rfl⟩
  refine ⟨f, ?_⟩
  have e : l = (List.range 133).map f := by
    refine List.ext_getElem (by simp [hl]) fun n h1 h2 => ?_
    simp [hf, h1]
  have e0 : f 0 = x0 := by
    have h : l[0]? = some x0 := by simpa using h0
    rw [hf]
    simp [h]
  have e1 : f 1 = x1 := by
    have h : l[1]? = some x1 := by simpa using h1
    rw [hf]
    simp [h]
  have e2 : f 2 = x2 := by
    have h : l[2]? = some x2 := by simpa using h2
    rw [hf]
    simp [h]
  have e3 : f 3 = x3 := by
    have h : l[3]? = some x3 := by simpa using h3
    rw [hf]
    simp [h]
  have e4 : f 4 = x4 := by
    have h : l[4]? = some x4 := by simpa using h4
    rw [hf]
    simp [h]
  have e5 : f 5 = x5 := by
    have h : l[5]? = some x5 := by simpa using h5
    rw [hf]
    simp [h]
  have e6 : f 6 = x6 := by
    have h : l[6]? = some x6 := by simpa using h6
    rw [hf]
    simp [h]
  have e7 : f 7 = x7 := by
    have h : l[7]? = some x7 := by simpa using h7
    rw [hf]
    simp [h]
  rw [← e0, ← e1, ← e2, ← e3, ← e4, ← e5, ← e6, ← e7]
  exact congrArg (fun l => ({ tmps := ⟨l⟩, defers := [] } : Act)) (e.trans rfl)
theorem slots14B {a : Act} {x0 x1 x2 x3 x4 x5 x6 x7 x8 x9 : Value} (hs : a.tmps.size = 133) (hd : a.defers = []) (h0 : a.tmps[0]? = some x0) (h1 : a.tmps[1]? = some x1) (h2 : a.tmps[2]? = some x2) (h3 : a.tmps[3]? = some x3) (h4 : a.tmps[4]? = some x4) (h5 : a.tmps[5]? = some x5) (h6 : a.tmps[6]? = some x6) (h7 : a.tmps[7]? = some x7) (h8 : a.tmps[8]? = some x8) (h9 : a.tmps[9]? = some x9) : ∃ vs : Nat → Value, a = { tmps := #[x0, x1, x2, x3, x4, x5, x6, x7, x8, x9, vs 10, vs 11, vs 12, vs 13, vs 14, vs 15, vs 16, vs 17, vs 18, vs 19, vs 20, vs 21, vs 22, vs 23, vs 24, vs 25, vs 26, vs 27, vs 28, vs 29, vs 30, vs 31, vs 32, vs 33, vs 34, vs 35, vs 36, vs 37, vs 38, vs 39, vs 40, vs 41, vs 42, vs 43, vs 44, vs 45, vs 46, vs 47, vs 48, vs 49, vs 50, vs 51, vs 52, vs 53, vs 54, vs 55, vs 56, vs 57, vs 58, vs 59, vs 60, vs 61, vs 62, vs 63, vs 64, vs 65, vs 66, vs 67, vs 68, vs 69, vs 70, vs 71, vs 72, vs 73, vs 74, vs 75, vs 76, vs 77, vs 78, vs 79, vs 80, vs 81, vs 82, vs 83, vs 84, vs 85, vs 86, vs 87, vs 88, vs 89, vs 90, vs 91, vs 92, vs 93, vs 94, vs 95, vs 96, vs 97, vs 98, vs 99, vs 100, vs 101, vs 102, vs 103, vs 104, vs 105, vs 106, vs 107, vs 108, vs 109, vs 110, vs 111, vs 112, vs 113, vs 114, vs 115, vs 116, vs 117, vs 118, vs 119, vs 120, vs 121, vs 122, vs 123, vs 124, vs 125, vs 126, vs 127, vs 128, vs 129, vs 130, vs 131, vs 132], defers := [] } := by
  obtain ⟨⟨l⟩, d⟩ := a
  obtain rfl : d = [] := hd
  have hl : l.length = 133 := hs
  obtain ⟨f, hf⟩ : ∃ f : Nat → Value, f = fun n => l[n]?.getD undef := ⟨_, rfl⟩
  refine ⟨f, ?_⟩
  have e : l = (List.range 133).map f := by
    refine List.ext_getElem (by simp [hl]) fun n h1 h2 => ?_
    simp [hf, h1]
  have e0 : f 0 = x0 := by
    have h : l[0]? = some x0 := by simpa using h0
    rw [hf]
    simp [h]
  have e1 : f 1 = x1 := by
    have h : l[1]? = some x1 := by simpa using h1
    rw [hf]
    simp [h]
  have e2 : f 2 = x2 := by
    have h : l[2]? = some x2 := by simpa using h2
    rw [hf]
    simp [h]
  have e3 : f 3 = x3 := by
    have h : l[3]? = some x3 := by simpa using h3
    rw [hf]
    simp [h]
  have e4 : f 4 = x4 := by
    have h : l[4]? = some x4 := by simpa using h4
    rw [hf]
    simp [h]
  have e5 : f 5 = x5 := by
    have h : l[5]? = some x5 := by simpa using h5
    rw [hf]
    simp [h]
  have e6 : f 6 = x6 := by
    have h : l[6]? = some x6 := by simpa using h6
    rw [hf]
    simp [h]
  have e7 : f 7 = x7 := by
    have h : l[7]? = some x7 := by simpa using h7
    rw [hf]
    simp [h]
  have e8 : f 8 = x8 := by
    have h : l[8]? = some x8 := by simpa using h8
    rw [hf]
    simp [h]
  have e9 : f 9 = x9 := by
    have h : l[9]? = some x9 := by simpa using h9
    rw [hf]
    simp [h]
  rw [← e0, ← e1, ← e2, ← e3, ← e4, ← e5, ← e6, ← e7, ← e8, ← e9]
  exact congrArg (fun l => ({ tmps := ⟨l⟩, defers := [] } : Act)) (e.trans rfl)
theorem slots14C {a : Act} {x0 x1 x2 x3 x4 x5 x6 x7 x8 x9 x10 x11 : Value} (hs : a.tmps.size = 133) (hd : a.defers = []) (h0 : a.tmps[0]? = some x0) (h1 : a.tmps[1]? = some x1) (h2 : a.tmps[2]? = some x2) (h3 : a.tmps[3]? = some x3) (h4 : a.tmps[4]? = some x4) (h5 : a.tmps[5]? = some x5) (h6 : a.tmps[6]? = some x6) (h7 : a.tmps[7]? = some x7) (h8 : a.tmps[8]? = some x8) (h9 : a.tmps[9]? = some x9) (h10 : a.tmps[10]? = some x10) (h11 : a.tmps[11]? = some x11) : ∃ vs : Nat → Value, a = { tmps := #[x0, x1, x2, x3, x4, x5, x6, x7, x8, x9, x10, x11, vs 12, vs 13, vs 14, vs 15, vs 16, vs 17, vs 18, vs 19, vs 20, vs 21, vs 22, vs 23, vs 24, vs 25, vs 26, vs 27, vs 28, vs 29, vs 30, vs 31, vs 32, vs 33, vs 34, vs 35, vs 36, vs 37, vs 38, vs 39, vs 40, vs 41, vs 42, vs 43, vs 44, vs 45, vs 46, vs 47, vs 48, vs 49, vs 50, vs 51, vs 52, vs 53, vs 54, vs 55, vs 56, vs 57, vs 58, vs 59, vs 60, vs 61, vs 62, vs 63, vs 64, vs 65, vs 66, vs 67, vs 68, vs 69, vs 70, vs 71, vs 72, vs 73, vs 74, vs 75, vs 76, vs 77, vs 78, vs 79, vs 80, vs 81, vs 82, vs 83, vs 84, vs 85, vs 86, vs 87, vs 88, vs 89, vs 90, vs 91, vs 92, vs 93, vs 94, vs 95, vs 96, vs 97, vs 98, vs 99, vs 100, vs 101, vs 102, vs 103, vs 104, vs 105, vs 106, vs 107, vs 108, vs 109, vs 110, vs 111, vs 112, vs 113, vs 114, vs 115, vs 116, vs 117, vs 118, vs 119, vs 120, vs 121, vs 122, vs 123, vs 124, vs 125, vs 126, vs 127, vs 128, vs 129, vs 130, vs 131, vs 132], defers := [] } := by
  obtain ⟨⟨l⟩, d⟩ := a
  obtain rfl : d = [] := hd
  have hl : l.length = 133 := hs
  obtain ⟨f, hf⟩ : ∃ f : Nat → Value, f = fun n => l[n]?.getD undef := ⟨_, rfl⟩
  refine ⟨f, ?_⟩
  have e : l = (List.range 133).map f := by
    refine List.ext_getElem (by simp [hl]) fun n h1 h2 => ?_
    simp [hf, h1]
  have e0 : f 0 = x0 := by
    have h : l[0]? = some x0 := by simpa using h0
    rw [hf]
    simp [h]
  have e1 : f 1 = x1 := by
    have h : l[1]? = some x1 := by simpa using h1
    rw [hf]
    simp [h]
  have e2 : f 2 = x2 := by
    have h : l[2]? = some x2 := by simpa using h2
    rw [hf]
    simp [h]
  have e3 : f 3 = x3 := by
    have h : l[3]? = some x3 := by simpa using h3
    rw [hf]
    simp [h]
  have e4 : f 4 = x4 := by
    have h : l[4]? = some x4 := by simpa using h4
    rw [hf]
    simp [h]
  have e5 : f 5 = x5 := by
    have h : l[5]? = some x5 := by simpa using h5
    rw [hf]
    simp [h]
  have e6 : f 6 = x6 := by
    have h : l[6]? = some x6 := by simpa using h6
    rw [hf]
    simp [h]
  have e7 : f 7 = x7 := by
    have h : l[7]? = some x7 := by simpa using h7
    rw [hf]
    simp [h]
  have e8 : f 8 = x8 := by
    have h : l[8]? = some x8 := by simpa using h8
    rw [hf]
    simp [h]
  have e9 : f 9 = x9 := by
    have h : l[9]? = some x9 := by simpa using h9
    rw [hf]
    simp [h]
  have e10 : f 10 = x10 := by
    have h : l[10]? = some x10 := by simpa using h10
    rw [hf]
    simp [h]
  have e11 : f 11 = x11 := by
    have h : l[11]? = some x11 := by simpa using h11
    rw [hf]
    simp [h]
  rw [← e0, ← e1, ← e2, ← e3, ← e4, ← e5, ← e6, ← e7, ← e8, ← e9, ← e10, ← e11]
  exact congrArg (fun l => ({ tmps := ⟨l⟩, defers := [] } : Act)) (e.trans rfl)
theorem slots14D {a : Act} {x0 x1 x2 x3 x4 x5 x6 x7 x8 x9 x10 x12 : Value} (hs : a.tmps.size = 133) (hd : a.defers = []) (h0 : a.tmps[0]? = some x0) (h1 : a.tmps[1]? = some x1) (h2 : a.tmps[2]? = some x2) (h3 : a.tmps[3]? = some x3) (h4 : a.tmps[4]? = some x4) (h5 : a.tmps[5]? = some x5) (h6 : a.tmps[6]? = some x6) (h7 : a.tmps[7]? = some x7) (h8 : a.tmps[8]? = some x8) (h9 : a.tmps[9]? = some x9) (h10 : a.tmps[10]? = some x10) (h12 : a.tmps[12]? = some x12) : ∃ vs : Nat → Value, a = { tmps := #[x0, x1, x2, x3, x4, x5, x6, x7, x8, x9, x10, vs 11, x12, vs 13, vs 14, vs 15, vs 16, vs 17, vs 18, vs 19, vs 20, vs 21, vs 22, vs 23, vs 24, vs 25, vs 26, vs 27, vs 28, vs 29, vs 30, vs 31, vs 32, vs 33, vs 34, vs 35, vs 36, vs 37, vs 38, vs 39, vs 40, vs 41, vs 42, vs 43, vs 44, vs 45, vs 46, vs 47, vs 48, vs 49, vs 50, vs 51, vs 52, vs 53, vs 54, vs 55, vs 56, vs 57, vs 58, vs 59, vs 60, vs 61, vs 62, vs 63, vs 64, vs 65, vs 66, vs 67, vs 68, vs 69, vs 70, vs 71, vs 72, vs 73, vs 74, vs 75, vs 76, vs 77, vs 78, vs 79, vs 80, vs 81, vs 82, vs 83, vs 84, vs 85, vs 86, vs 87, vs 88, vs 89, vs 90, vs 91, vs 92, vs 93, vs 94, vs 95, vs 96, vs 97, vs 98, vs 99, vs 100, vs 101, vs 102, vs 103, vs 104, vs 105, vs 106, vs 107, vs 108, vs 109, vs 110, vs 111, vs 112, vs 113, vs 114, vs 115, vs 116, vs 117, vs 118, vs 119, vs 120, vs 121, vs 122, vs 123, vs 124, vs 125, vs 126, vs 127, vs 128, vs 129, vs 130, vs 131, vs 132], defers := [] } := by
  obtain ⟨⟨l⟩, d⟩ := a
  obtain rfl : d = [] := hd
  have hl : l.length = 133 := hs
  obtain ⟨f, hf⟩ : ∃ f : Nat → Value, f = fun n => l[n]?.getD undef := ⟨_, rfl⟩
  refine ⟨f, ?_⟩
  have e : l = (List.range 133).map f := by
    refine List.ext_getElem (by simp [hl]) fun n h1 h2 => ?_
    simp [hf, h1]
  have e0 : f 0 = x0 := by
    have h : l[0]? = some x0 := by simpa using h0
    rw [hf]
    simp [h]
  have e1 : f 1 = x1 := by
    have h : l[1]? = some x1 := by simpa using h1
    rw [hf]
    simp [h]
  have e2 : f 2 = x2 := by
    have h : l[2]? = some x2 := by simpa using h2
    rw [hf]
    simp [h]
  have e3 : f 3 = x3 := by
    have h : l[3]? = some x3 := by simpa using h3
    rw [hf]
    simp [h]
  have e4 : f 4 = x4 := by
    have h : l[4]? = some x4 := by simpa using h4
    rw [hf]
    simp [h]
  have e5 : f 5 = x5 := by
    have h : l[5]? = some x5 := by simpa using h5
    rw [hf]
    simp [h]
  have e6 : f 6 = x6 := by
    have h : l[6]? = some x6 := by simpa using h6
    rw [hf]
    simp [h]
  have e7 : f 7 = x7 := by
    have h : l[7]? = some x7 := by simpa using h7
    rw [hf]
    simp [h]
  have e8 : f 8 = x8 := by
    have h : l[8]? = some x8 := by simpa using h8
    rw [hf]
    simp [h]
  have e9 : f 9 = x9 := by
    have h : l[9]? = some x9 := by simpa using h9
    rw [hf]
    simp [h]
  have e10 : f 10 = x10 := by
    have h : l[10]? = some x10 := by simpa using h10
    rw [hf]
    simp [h]
  have e12 : f 12 = x12 := by
    have h : l[12]? = some x12 := by simpa using h12
    rw [hf]
    simp [h]
  rw [← e0, ← e1, ← e2, ← e3, ← e4, ← e5, ← e6, ← e7, ← e8, ← e9, ← e10, ← e12]
  exact congrArg (fun l => ({ tmps := ⟨l⟩, defers := [] } : Act)) (e.trans rfl)

set_option maxHeartbeats 8000000 in
theorem goes14 {Post : Value → World → Prop} {u : World} {sA A : Option Addr} {sc cp : Nat} {xs : List Int} {raws : List (List Int)} (hsch : kI.C u sA xs.length xs) (hsl : xs.length * 8 ≤ 140737488355328) (hR : RawAt u A raws) (hmx : raws.length ≤ 9223372036854775806)
    (hpost : ∀ w, Grown u w → Post (.bool true) w) : Wn (ctxQ Post 1) (Frame.enter Try.prog 14 #[.slice sA xs.length sc, .slice A raws.length cp] .normal) [] u := by
  have hfz : (ctxQ Post 1).fz = false := rfl
  have hpost : Hid (∀ w, Grown u w → Post (.bool true) w) := hpost
  have HS : Hid (RawAt u A raws) := hR
  have HSCH : Hid (kI.C u sA xs.length xs) := hsch
  have HSL : Hid (xs.length * 8 ≤ 140737488355328) := hsl
  have HMX : Hid (raws.length ≤ 9223372036854775806) := hmx
  clear hR hsch hsl hmx
  refine Wn.body Try.func14 rfl ?_
  simp only [Try.ntmps14, List.size_toArray, List.length_cons, List.length_nil, Nat.reduceAdd, Nat.reduceSub, Array.replicate_succ, Array.replicate_zero, List.push_toArray, List.append_toArray, List.nil_append, List.cons_append]
  refine Wn.seq (Wn.reg (by simp [base]) (by rw [hfz]; kernel_rfl) ?_)
  go_wp2_with fail
  refine ⟨rfl, ?_⟩
  refine Wn.seq (Wn.open ?_)
  refine Wn.callC 0 2 1 rfl (by simp [base]) rfl rfl rfl (by kernel_rfl) ?_
  refine awake45 (N := 1) (by decide) ?_
  intro u1 hg0
  rw [Frame.finish_at]
  show Wn (ctxQ Post 2) _ _ _
  have hfz : (ctxQ Post 2).fz = false := rfl
  have HU : Hid (Grown u u1) := hg0
  clear hg0
  refine Wn.span1 1 1 1 (by simp [base]) (by decide) (by decide) (by rw [hfz]; kernel_rfl) ?_
  simp only [List.take, List.drop]
  go_wp2_with fail
  refine ⟨rfl, ?_⟩
  refine Wn.range_end (n := 0) ?_
  refine Wn.seq (Wn.reg (by simp [base]) (by rw [hfz]; kernel_rfl) ?_)
  go_wp2_with fail
  refine ⟨rfl, ?_⟩
  refine Wn.seq (Wn.seq (Wn.reg (by simp [base]) (by rw [hfz]; kernel_rfl) ?_))
  go_wp2_with fail
  refine ⟨rfl, ?_⟩
  refine Wn.block ?_
  refine Wn.loop_ind (f := raws.length - 0 + 1) (fun f a w C1 => C1 = ctxQ Post 2 ∧ ∃ (i : Nat) (v6 : Value), f = raws.length - i + 1 ∧ Hid (i ≤ raws.length ∧ i ≤ 8) ∧ Hid (Outer u1 v6 ((raws.take i).map fun xs => bldG xs []) w) ∧ ∃ vs : Nat → Value, a = { tmps := #[.slice sA xs.length sc, .slice A raws.length cp, undef, undef, .bool false, .bool true, v6, num i, vs 8, vs 9, vs 10, vs 11, vs 12, vs 13, vs 14, vs 15, vs 16, vs 17, vs 18, vs 19, vs 20, vs 21, vs 22, vs 23, vs 24, vs 25, vs 26, vs 27, vs 28, vs 29, vs 30, vs 31, vs 32, vs 33, vs 34, vs 35, vs 36, vs 37, vs 38, vs 39, vs 40, vs 41, vs 42, vs 43, vs 44, vs 45, vs 46, vs 47, vs 48, vs 49, vs 50, vs 51, vs 52, vs 53, vs 54, vs 55, vs 56, vs 57, vs 58, vs 59, vs 60, vs 61, vs 62, vs 63, vs 64, vs 65, vs 66, vs 67, vs 68, vs 69, vs 70, vs 71, vs 72, vs 73, vs 74, vs 75, vs 76, vs 77, vs 78, vs 79, vs 80, vs 81, vs 82, vs 83, vs 84, vs 85, vs 86, vs 87, vs 88, vs 89, vs 90, vs 91, vs 92, vs 93, vs 94, vs 95, vs 96, vs 97, vs 98, vs 99, vs 100, vs 101, vs 102, vs 103, vs 104, vs 105, vs 106, vs 107, vs 108, vs 109, vs 110, vs 111, vs 112, vs 113, vs 114, vs 115, vs 116, vs 117, vs 118, vs 119, vs 120, vs 121, vs 122, vs 123, vs 124, vs 125, vs 126, vs 127, vs 128, vs 129, vs 130, vs 131, vs 132], defers := [] }) ?_ ?_ ⟨rfl, 0, _, rfl, (show (0 : Nat) ≤ _ ∧ (0 : Nat) ≤ 8 from ⟨Nat.zero_le _, Nat.zero_le _⟩), (show Outer u1 (.slice none 0 0) _ u1 from Outer.start u1), slots14A rfl rfl rfl rfl rfl rfl rfl rfl rfl rfl⟩
  · rintro f ih a w0 C1 ⟨rfl, i, v6, hf', hi, HO, vs, rfl⟩
    by_cases hend : i < raws.length ∧ i < 8
    · obtain ⟨he1, he2⟩ := hend
      have HEND : Hid (i < raws.length ∧ i < 8) := (show _ ∧ _ from ⟨he1, he2⟩)
      have hci : raws[i]? = some raws[i] := List.getElem?_eq_getElem he1
      have htk : Hid ((raws.take (i + 1)).map (fun xs => bldG xs []) = (raws.take i).map (fun xs => bldG xs []) ++ [bldG raws[i] []]) := by
        show _ = _
        rw [List.take_add_one, hci, List.map_append]
        rfl
      obtain ⟨hyl, ad, B, c, rfl, q0, hB⟩ := HS.out i _ hci
      generalize raws[i] = ys at q0 hB htk hyl
      have q0 := HU.out.cell q0
      have HB : Hid (∀ k, k < ys.length → ∃ bd, B = some bd ∧ u1.cell? (bd.add k) = some (num (ys.getD k 0))) := fun k hk => by
        obtain ⟨bd, e1, e2⟩ := hB k hk
        exact ⟨bd, e1, HU.out.cell e2⟩
      have HYL : Hid (ys.length ≤ 9223372036854775807) := hyl
      have HQ0 : Hid (u1.cell? (ad.add i) = some (.slice B ys.length c)) := q0
      clear hB hci q0 hyl
      have d1 : decide ((i : Int) < (raws.length : Int)) = true := decide_eq_true (by omega)
      have d2 : decide ((i : Int) < 8) = true := decide_eq_true (by omega)
      refine Wn.seq (Wn.seq (Wn.reg (by simp [base]) (by rw [hfz]; kernel_rfl) ?_))
      go_wp2_with fail
      refine ⟨rfl, ?_⟩
      refine Wn.cond rfl ?_
      simp only [if_true]
      clear d1 d2 he1 he2
      refine Wn.skip (Wn.seq (Wn.block ?_))
      refine Wn.seq (Wn.reg (by simp [base]) (by rw [hfz]; kernel_rfl) ?_)
      go_wp2_with fail
      refine ⟨rfl, ?_⟩
      refine Wn.seq (Wn.seq (Wn.reg (by simp [base]) (by rw [hfz]; kernel_rfl) ?_))
      go_wp2_with fail
      refine ⟨rfl, ?_⟩
      refine Wn.block ?_
      have HI0 : Hid (Inner w0 (.slice none 0 0) [] w0) := Inner.start w0
      refine Wn.loop_ind (f := ys.length - 0 + 1) (fun f a w C1 => C1 = ctxQ Post 2 ∧ ∃ (k : Nat) (A8 : Option Addr) (c8 : Nat) (l : List Cal), f = ys.length - k + 1 ∧ Hid (k ≤ ys.length) ∧ Hid (Inner w0 (.slice A8 l.length c8) l w) ∧ Hid (bldG (ys.drop k) l = bldG ys []) ∧ Hid (l.length ≤ 55) ∧ ∃ vs : Nat → Value, a = { tmps := #[.slice sA xs.length sc, .slice (some ad) raws.length cp, undef, undef, .bool false, .bool true, v6, num i, .slice A8 l.length c8, num k, vs 10, vs 11, vs 12, vs 13, vs 14, vs 15, vs 16, vs 17, vs 18, vs 19, vs 20, vs 21, vs 22, vs 23, vs 24, vs 25, vs 26, vs 27, vs 28, vs 29, vs 30, vs 31, vs 32, vs 33, vs 34, vs 35, vs 36, vs 37, vs 38, vs 39, vs 40, vs 41, vs 42, vs 43, vs 44, vs 45, vs 46, vs 47, vs 48, vs 49, vs 50, vs 51, vs 52, vs 53, vs 54, vs 55, vs 56, vs 57, vs 58, vs 59, vs 60, vs 61, vs 62, vs 63, vs 64, vs 65, vs 66, vs 67, vs 68, vs 69, vs 70, vs 71, vs 72, vs 73, vs 74, vs 75, vs 76, vs 77, vs 78, vs 79, vs 80, vs 81, vs 82, vs 83, vs 84, vs 85, vs 86, vs 87, vs 88, vs 89, vs 90, vs 91, vs 92, vs 93, vs 94, vs 95, vs 96, vs 97, vs 98, vs 99, vs 100, vs 101, vs 102, vs 103, vs 104, vs 105, vs 106, vs 107, vs 108, vs 109, vs 110, vs 111, vs 112, vs 113, vs 114, vs 115, vs 116, vs 117, vs 118, vs 119, vs 120, vs 121, vs 122, vs 123, vs 124, vs 125, vs 126, vs 127, vs 128, vs 129, vs 130, vs 131, vs 132], defers := [] }) ?_ ?_ ⟨rfl, 0, none, 0, [], rfl, Nat.zero_le _, HI0, rfl, (show (0 : Nat) ≤ 55 by decide), slots14B rfl rfl rfl rfl rfl rfl rfl rfl rfl rfl rfl rfl⟩
      · rintro f2 ih2 a w C1 ⟨rfl, k, A8, c8, l, hf2, hk, HI, HBL, HLL, vs, rfl⟩
        have q0 := HI.out.g.cell (HO.out.g.cell HQ0.out)
        have d1 : decide ((i : Int) < (raws.length : Int)) = true := decide_eq_true (by have := HEND.out; omega)
        have d2 : decide ((0 : Int) ≤ (i : Int)) = true := decide_eq_true (by omega)
        have d3 : (i : Int) < (raws.length : Int) := by have := HEND.out; omega
        have d4 : (0 : Int) ≤ (i : Int) := by omega
        by_cases hke : k < ys.length ∧ l.length < 50
        · obtain ⟨hk1, hk2⟩ := hke
          obtain ⟨bd, rfl, p0⟩ := HB.out k hk1
          have p0 := HI.out.g.cell (HO.out.g.cell p0)
          have hdr : ys.drop k = ys.getD k 0 :: ys.drop (k + 1) := by
            rw [List.drop_eq_getElem_cons hk1, List.getD_eq_getElem?_getD, List.getElem?_eq_getElem hk1]; rfl
          have HBN : Hid (bldG (ys.drop (k + 1)) (l ++ blkG (ys.getD k 0 % 8)) = bldG ys []) := by
            have h := HBL.out
            have h2 : bldG (ys.getD k 0 :: ys.drop (k + 1)) l = if l.length < 50 then bldG (ys.drop (k + 1)) (l ++ blkG (ys.getD k 0 % 8)) else l := rfl
            rw [hdr, h2, if_pos hk2] at h
            exact h
          generalize ys.getD k 0 = y at p0 HBN
          have HK : Hid (k < ys.length) := hk1
          have HL50 : Hid (l.length < 50) := hk2
          have e1 : decide ((k : Int) < (ys.length : Int)) = true := decide_eq_true (by omega)
          have e2 : decide ((0 : Int) ≤ (k : Int)) = true := decide_eq_true (by omega)
          have e3 : (k : Int) < (ys.length : Int) := by omega
          have e4 : (0 : Int) ≤ (k : Int) := by omega
          have e5 : decide ((l.length : Int) < 50) = true := decide_eq_true (by omega)
          clear hdr hk1 hk2
          refine Wn.seq (Wn.seq (Wn.reg (by simp [base]) (by rw [hfz]; kernel_rfl) ?_))
          go_wp2_with fail
          refine ⟨rfl, ?_⟩
          refine Wn.cond rfl ?_
          simp only [if_true]
          clear e5
          refine Wn.skip (Wn.seq (Wn.block ?_))
          refine Wn.seq (Wn.reg (by simp [base]) (by rw [hfz]; kernel_rfl) ?_)
          go_wp2_with fail
          refine ⟨rfl, ?_⟩
          rw [i64_and7]
          obtain ⟨n, hnn, hn0, hn8⟩ : ∃ n, Hid (n = y % 8) ∧ 0 ≤ n ∧ n < 8 := ⟨_, rfl, by omega, by omega⟩
          rw [← hnn.out]
          have HBN : Hid (bldG (ys.drop (k + 1)) (l ++ blkG n) = bldG ys []) := by rw [hnn.out]; exact HBN.out
          clear hnn p0 q0 d1 d2 d3 d4 e1 e2 e3 e4
          by_cases h3 : n > 3
          · have e1 : decide (n > 3) = true := decide_eq_true h3
            have e2 : decide (3 < n) = true := decide_eq_true h3
            refine Wn.seq (Wn.seq (Wn.reg (by simp [base]) (by rw [hfz]; kernel_rfl) ?_))
            go_wp2_with fail
            refine ⟨rfl, ?_⟩
            refine Wn.cond rfl ?_
            simp only [if_true]
            clear e1 e2
            refine Wn.seq (Wn.open ?_)
            refine Wn.span1 0 3 5 (by simp [base]) (by decide) (by decide) (by rw [hfz]; kernel_rfl) ?_
            simp only [List.take, List.drop]
            go_wp2_with fail
            refine ⟨rfl, ?_⟩
            refine Wn.opT 3 2 1 rfl (by simp [base]) rfl (by rw [hfz]; rfl) fun τ d => ?_
            refine append_call (W := w.on τ d) (p := cS) (v := .slice A8 l.length c8) (acc := l) (ok := fun k => w0.heap.size ≤ k) rfl rfl rfl rfl (R_flat flat_k36 HI.out.r (fun _ _ => rfl) HI.out.r.1) (by have := HL50.out; omega) ?_
            intro v1 w1 hRw hgw hat
            have HI1 : Hid (Inner w0 v1 (l ++ [cS]) w1) := HI.out.step hRw hgw
            clear hRw hgw hat
            refine Wn.span1 4 1 1 (by simp [base]) (by decide) (by decide) (by rw [hfz]; kernel_rfl) ?_
            simp only [List.take, List.drop]
            go_wp2_with fail
            refine ⟨rfl, ?_⟩
            refine Wn.range_end (n := 0) ?_
            refine Wn.exit rfl ?_
            have HBN : Hid (bldG (ys.drop (k + 1)) (l ++ [cS]) = bldG ys []) := by
              have h := HBN.out
              unfold blkG at h
              rw [if_pos h3] at h
              exact h
            obtain ⟨A9, c9, rfl⟩ := Kd.R_slice HI1.out.r
            have g1 : k < ys.length := HK.out
            have g2 : ys.length ≤ 9223372036854775807 := HYL.out
            refine Wn.reg (by simp [base]) (by rw [hfz]; kernel_rfl) ?_
            go_wp2_with fail
            refine ⟨rfl, ?_⟩
            refine ih2 _ _ _ ⟨rfl, k + 1, A9, c9, _, by have := HK.out; omega, (by have := HK.out; show k + 1 ≤ ys.length; omega), HI1, HBN, (by show List.length _ ≤ 55; have := HL50.out; simp; omega), slots14B rfl rfl rfl rfl rfl rfl rfl rfl rfl rfl rfl rfl⟩
          · have e1 : decide (n > 3) = false := decide_eq_false h3
            have e2 : decide (3 < n) = false := decide_eq_false h3
            refine Wn.seq (Wn.seq (Wn.reg (by simp [base]) (by rw [hfz]; kernel_rfl) ?_))
            go_wp2_with fail
            refine ⟨rfl, ?_⟩
            refine Wn.cond rfl ?_
            simp only [Bool.false_eq_true, if_false]
            clear e1 e2
            have HBN : Hid (bldG (ys.drop (k + 1)) (l ++ (List.replicate n.toNat cE ++ List.replicate n.toNat cL)) = bldG ys []) := by
              have h := HBN.out
              unfold blkG at h
              rw [if_neg (by omega)] at h
              exact h
            obtain ⟨m, rfl⟩ := Int.eq_ofNat_of_zero_le hn0
            have HN : Hid (m ≤ 3) := (show m ≤ 3 by omega)
            rw [Int.toNat_natCast] at HBN
            clear h3 hn0 hn8
            refine Wn.skip (Wn.seq (Wn.seq (Wn.reg (by simp [base]) (by rw [hfz]; kernel_rfl) ?_)))
            go_wp2_with fail
            refine ⟨rfl, ?_⟩
            refine Wn.block ?_
            refine Wn.loop_ind (f := m - 0 + 1) (fun f a w C1 => C1 = ctxQ Post 2 ∧ ∃ (j : Nat) (v8 : Value), f = m - j + 1 ∧ Hid (j ≤ m) ∧ Hid (Inner w0 v8 (l ++ List.replicate j cE) w) ∧ ∃ vs : Nat → Value, a = { tmps := #[.slice sA xs.length sc, .slice (some ad) raws.length cp, undef, undef, .bool false, .bool true, v6, num i, v8, num k, num m, num j, vs 12, vs 13, vs 14, vs 15, vs 16, vs 17, vs 18, vs 19, vs 20, vs 21, vs 22, vs 23, vs 24, vs 25, vs 26, vs 27, vs 28, vs 29, vs 30, vs 31, vs 32, vs 33, vs 34, vs 35, vs 36, vs 37, vs 38, vs 39, vs 40, vs 41, vs 42, vs 43, vs 44, vs 45, vs 46, vs 47, vs 48, vs 49, vs 50, vs 51, vs 52, vs 53, vs 54, vs 55, vs 56, vs 57, vs 58, vs 59, vs 60, vs 61, vs 62, vs 63, vs 64, vs 65, vs 66, vs 67, vs 68, vs 69, vs 70, vs 71, vs 72, vs 73, vs 74, vs 75, vs 76, vs 77, vs 78, vs 79, vs 80, vs 81, vs 82, vs 83, vs 84, vs 85, vs 86, vs 87, vs 88, vs 89, vs 90, vs 91, vs 92, vs 93, vs 94, vs 95, vs 96, vs 97, vs 98, vs 99, vs 100, vs 101, vs 102, vs 103, vs 104, vs 105, vs 106, vs 107, vs 108, vs 109, vs 110, vs 111, vs 112, vs 113, vs 114, vs 115, vs 116, vs 117, vs 118, vs 119, vs 120, vs 121, vs 122, vs 123, vs 124, vs 125, vs 126, vs 127, vs 128, vs 129, vs 130, vs 131, vs 132], defers := [] }) ?_ ?_ ⟨rfl, 0, _, rfl, Nat.zero_le _, (show Hid (Inner _ _ (l ++ []) _) by rw [List.append_nil]; exact HI), slots14C rfl rfl rfl rfl rfl rfl rfl rfl rfl rfl rfl rfl rfl rfl⟩
            · rintro f3 ih3 a w C1 ⟨rfl, j, v8, hf3, hj, HI, vs, rfl⟩
              by_cases hjm : j < m
              · have e1 : decide ((j : Int) < (m : Int)) = true := decide_eq_true (by omega)
                refine Wn.seq (Wn.seq (Wn.reg (by simp [base]) (by rw [hfz]; kernel_rfl) ?_))
                go_wp2_with fail
                refine ⟨rfl, ?_⟩
                refine Wn.cond rfl ?_
                simp only [if_true]
                clear e1
                have HJ : Hid (j < m) := hjm
                clear hjm
                refine Wn.skip (Wn.seq (Wn.block ?_))
                refine Wn.open ?_
                refine Wn.span1 0 3 5 (by simp [base]) (by decide) (by decide) (by rw [hfz]; kernel_rfl) ?_
                simp only [List.take, List.drop]
                go_wp2_with fail
                refine ⟨rfl, ?_⟩
                refine Wn.opT 3 2 1 rfl (by simp [base]) rfl (by rw [hfz]; rfl) fun τ d => ?_
                refine append_call (W := w.on τ d) (p := cE) (v := v8) (acc := l ++ List.replicate j cE) (ok := fun k => w0.heap.size ≤ k) rfl rfl rfl rfl (R_flat flat_k36 HI.out.r (fun _ _ => rfl) HI.out.r.1) (by simp; have := HL50.out; have := HN.out; have := HJ.out; omega) ?_
                intro v1 w1 hRw hgw hat
                have HI1 : Hid (Inner w0 v1 (l ++ List.replicate j cE ++ [cE]) w1) := HI.out.step hRw hgw
                clear hRw hgw hat
                refine Wn.span1 4 1 1 (by simp [base]) (by decide) (by decide) (by rw [hfz]; kernel_rfl) ?_
                simp only [List.take, List.drop]
                go_wp2_with fail
                refine ⟨rfl, ?_⟩
                refine Wn.range_end (n := 0) ?_
                refine Wn.inBlock ?_
                have g1 : j < 3 := by have := HJ.out; have := HN.out; omega
                refine Wn.reg (by simp [base]) (by rw [hfz]; kernel_rfl) ?_
                go_wp2_with fail
                refine ⟨rfl, ?_⟩
                refine ih3 _ _ _ ⟨rfl, j + 1, v1, by have := HJ.out; omega, (by have := HJ.out; show j + 1 ≤ m; omega), (show Inner _ _ _ _ by have h := HI1.out; rw [List.append_assoc, ← List.replicate_succ'] at h; exact h), slots14C rfl rfl rfl rfl rfl rfl rfl rfl rfl rfl rfl rfl rfl rfl⟩
              · have hjm : j = m := by have := hj.out; omega
                have e1 : decide ((j : Int) < (m : Int)) = false := decide_eq_false (by omega)
                have HI : Hid (Inner w0 v8 (l ++ List.replicate m cE) w) := by have h := HI; rw [hjm] at h; exact h
                clear hjm
                refine Wn.seq (Wn.seq (Wn.reg (by simp [base]) (by rw [hfz]; kernel_rfl) ?_))
                go_wp2_with fail
                refine ⟨rfl, ?_⟩
                refine Wn.cond rfl ?_
                simp only [Bool.false_eq_true, if_false]
                clear e1
                refine Wn.exit rfl ?_
                refine Wn.seq (Wn.reg (by simp [base]) (by rw [hfz]; kernel_rfl) ?_)
                go_wp2_with fail
                refine ⟨rfl, ?_⟩
                refine Wn.block ?_
                refine Wn.loop_ind (f := m - 0 + 1) (fun f a w C1 => C1 = ctxQ Post 2 ∧ ∃ (j : Nat) (v8 : Value), f = m - j + 1 ∧ Hid (j ≤ m) ∧ Hid (Inner w0 v8 ((l ++ List.replicate m cE) ++ List.replicate j cL) w) ∧ ∃ vs : Nat → Value, a = { tmps := #[.slice sA xs.length sc, .slice (some ad) raws.length cp, undef, undef, .bool false, .bool true, v6, num i, v8, num k, num m, vs 11, num j, vs 13, vs 14, vs 15, vs 16, vs 17, vs 18, vs 19, vs 20, vs 21, vs 22, vs 23, vs 24, vs 25, vs 26, vs 27, vs 28, vs 29, vs 30, vs 31, vs 32, vs 33, vs 34, vs 35, vs 36, vs 37, vs 38, vs 39, vs 40, vs 41, vs 42, vs 43, vs 44, vs 45, vs 46, vs 47, vs 48, vs 49, vs 50, vs 51, vs 52, vs 53, vs 54, vs 55, vs 56, vs 57, vs 58, vs 59, vs 60, vs 61, vs 62, vs 63, vs 64, vs 65, vs 66, vs 67, vs 68, vs 69, vs 70, vs 71, vs 72, vs 73, vs 74, vs 75, vs 76, vs 77, vs 78, vs 79, vs 80, vs 81, vs 82, vs 83, vs 84, vs 85, vs 86, vs 87, vs 88, vs 89, vs 90, vs 91, vs 92, vs 93, vs 94, vs 95, vs 96, vs 97, vs 98, vs 99, vs 100, vs 101, vs 102, vs 103, vs 104, vs 105, vs 106, vs 107, vs 108, vs 109, vs 110, vs 111, vs 112, vs 113, vs 114, vs 115, vs 116, vs 117, vs 118, vs 119, vs 120, vs 121, vs 122, vs 123, vs 124, vs 125, vs 126, vs 127, vs 128, vs 129, vs 130, vs 131, vs 132], defers := [] }) ?_ ?_ ⟨rfl, 0, _, rfl, Nat.zero_le _, (show Hid (Inner _ _ ((l ++ List.replicate m cE) ++ []) _) by rw [List.append_nil]; exact HI), slots14D rfl rfl rfl rfl rfl rfl rfl rfl rfl rfl rfl rfl rfl rfl⟩
                · rintro f3 ih3 a w C1 ⟨rfl, j, v8, hf3, hj, HI, vs, rfl⟩
                  by_cases hjm : j < m
                  · have e1 : decide ((j : Int) < (m : Int)) = true := decide_eq_true (by omega)
                    refine Wn.seq (Wn.seq (Wn.reg (by simp [base]) (by rw [hfz]; kernel_rfl) ?_))
                    go_wp2_with fail
                    refine ⟨rfl, ?_⟩
                    refine Wn.cond rfl ?_
                    simp only [if_true]
                    clear e1
                    have HJ : Hid (j < m) := hjm
                    clear hjm
                    refine Wn.skip (Wn.seq (Wn.block ?_))
                    refine Wn.open ?_
                    refine Wn.span1 0 3 5 (by simp [base]) (by decide) (by decide) (by rw [hfz]; kernel_rfl) ?_
                    simp only [List.take, List.drop]
                    go_wp2_with fail
                    refine ⟨rfl, ?_⟩
                    refine Wn.opT 3 2 1 rfl (by simp [base]) rfl (by rw [hfz]; rfl) fun τ d => ?_
                    refine append_call (W := w.on τ d) (p := cL) (v := v8) (acc := (l ++ List.replicate m cE) ++ List.replicate j cL) (ok := fun k => w0.heap.size ≤ k) rfl rfl rfl rfl (R_flat flat_k36 HI.out.r (fun _ _ => rfl) HI.out.r.1) (by simp; have := HL50.out; have := HN.out; have := HJ.out; omega) ?_
                    intro v1 w1 hRw hgw hat
                    have HI1 : Hid (Inner w0 v1 ((l ++ List.replicate m cE) ++ List.replicate j cL ++ [cL]) w1) := HI.out.step hRw hgw
                    clear hRw hgw hat
                    refine Wn.span1 4 1 1 (by simp [base]) (by decide) (by decide) (by rw [hfz]; kernel_rfl) ?_
                    simp only [List.take, List.drop]
                    go_wp2_with fail
                    refine ⟨rfl, ?_⟩
                    refine Wn.range_end (n := 0) ?_
                    refine Wn.inBlock ?_
                    have g1 : j < 3 := by have := HJ.out; have := HN.out; omega
                    refine Wn.reg (by simp [base]) (by rw [hfz]; kernel_rfl) ?_
                    go_wp2_with fail
                    refine ⟨rfl, ?_⟩
                    refine ih3 _ _ _ ⟨rfl, j + 1, v1, by have := HJ.out; omega, (by have := HJ.out; show j + 1 ≤ m; omega), (show Inner _ _ _ _ by have h := HI1.out; rw [List.append_assoc, ← List.replicate_succ'] at h; exact h), slots14D rfl rfl rfl rfl rfl rfl rfl rfl rfl rfl rfl rfl rfl rfl⟩
                  · have hjm : j = m := by have := hj.out; omega
                    have e1 : decide ((j : Int) < (m : Int)) = false := decide_eq_false (by omega)
                    have HI : Hid (Inner w0 v8 ((l ++ List.replicate m cE) ++ List.replicate m cL) w) := by have h := HI; rw [hjm] at h; exact h
                    clear hjm
                    refine Wn.seq (Wn.seq (Wn.reg (by simp [base]) (by rw [hfz]; kernel_rfl) ?_))
                    go_wp2_with fail
                    refine ⟨rfl, ?_⟩
                    refine Wn.cond rfl ?_
                    simp only [Bool.false_eq_true, if_false]
                    clear e1
                    refine Wn.exit rfl ?_
                    refine Wn.inBlock ?_
                    obtain ⟨A9, c9, rfl⟩ := Kd.R_slice HI.out.r
                    have g1 : k < ys.length := HK.out
                    have g2 : ys.length ≤ 9223372036854775807 := HYL.out
                    refine Wn.reg (by simp [base]) (by rw [hfz]; kernel_rfl) ?_
                    go_wp2_with fail
                    refine ⟨rfl, ?_⟩
                    refine ih2 _ _ _ ⟨rfl, k + 1, A9, c9, _, by have := HK.out; omega, (by have := HK.out; show k + 1 ≤ ys.length; omega), HI, (show _ = _ by have h := HBN.out; rw [← List.append_assoc] at h; exact h), (by show List.length _ ≤ 55; have := HL50.out; have := HN.out; simp; omega), slots14B rfl rfl rfl rfl rfl rfl rfl rfl rfl rfl rfl rfl⟩
                · rintro a u1 C1 ⟨_, j, _, hf', _⟩
                  omega
            · rintro a u1 C1 ⟨_, j, _, hf', _⟩
              omega
        · by_cases hk1 : k < ys.length
          · have hk2 : ¬ l.length < 50 := fun h => hke ⟨hk1, h⟩
            obtain ⟨bd, rfl, p0⟩ := HB.out k hk1
            have e1 : decide ((k : Int) < (ys.length : Int)) = true := decide_eq_true (by omega)
            have e5 : decide ((l.length : Int) < 50) = false := decide_eq_false (by omega)
            have HK1 : Hid (k < ys.length) := hk1
            have HK2 : Hid (¬ l.length < 50) := hk2
            clear hk1 hk2 p0 hke
            refine Wn.seq (Wn.seq (Wn.reg (by simp [base]) (by rw [hfz]; kernel_rfl) ?_))
            go_wp2_with fail
            refine ⟨rfl, ?_⟩
            refine Wn.cond rfl ?_
            simp only [Bool.false_eq_true, if_false]
            refine Wn.exit rfl ?_
            have HEQ : Hid (l = bldG ys []) := by
              show _ = _
              rw [← HBL.out]
              rw [List.drop_eq_getElem_cons HK1.out]
              exact (if_neg HK2.out).symm
            obtain ⟨rows, r1, r2, r3⟩ := (HO.out.grown HI.out.g).r
            have HR2 : Hid (rows.length ≤ 8) := by
              show _ ≤ 8
              have := HEND.out
              rw [r2, List.length_map, List.length_take]
              omega
            clear e1 e5 d1 d2 d3 d4 q0
            refine Wn.open ?_
            refine Wn.span1 0 3 5 (by simp [base]) (by decide) (by decide) (by rw [hfz]; kernel_rfl) ?_
            simp only [List.take, List.drop]
            go_wp2_with fail
            refine ⟨rfl, ?_⟩
            refine Wn.opT 3 2 1 rfl (by simp [base]) rfl (by rw [hfz]; rfl) fun τ d => ?_
            refine append_script (W := w.on τ d) (p := (A8, l.length, c8)) (v := v6) (acc := rows) (ok := fun k => u1.heap.size ≤ k) rfl rfl rfl rfl (R_flat flat_kL r1 (fun _ _ => rfl) r1.1) (by have := HR2.out; omega) ?_
            intro v1 w1 hRw hgw hat
            have HO1 : Hid (Outer u1 v1 ((raws.take (i + 1)).map fun xs => bldG xs []) w1) := by
              have h := Outer.step (HO.out.g.trans HI.out.g) r1 r2 r3 (Kd.R_mono HI.out.r fun k hk => Nat.le_trans HO.out.g.size hk) hRw hgw
              rw [HEQ.out] at h
              show Outer _ _ _ _
              rw [htk.out]
              exact h
            clear hRw hgw hat r1 r2 r3
            refine Wn.span1 4 1 1 (by simp [base]) (by decide) (by decide) (by rw [hfz]; kernel_rfl) ?_
            simp only [List.take, List.drop]
            go_wp2_with fail
            refine ⟨rfl, ?_⟩
            refine Wn.range_end (n := 0) ?_
            refine Wn.inBlock ?_
            have g1 : i < 8 := HEND.out.2
            refine Wn.reg (by simp [base]) (by rw [hfz]; kernel_rfl) ?_
            go_wp2_with fail
            refine ⟨rfl, ?_⟩
            refine ih _ _ _ ⟨rfl, i + 1, v1, by have := HEND.out; omega, (by have := HEND.out; show i + 1 ≤ raws.length ∧ i + 1 ≤ 8; omega), HO1, slots14A rfl rfl rfl rfl rfl rfl rfl rfl rfl rfl⟩
          · have e1 : decide ((k : Int) < (ys.length : Int)) = false := decide_eq_false (by omega)
            have HK1 : Hid (¬ k < ys.length) := hk1
            have e5 : True := trivial
            clear hk1 hke
            refine Wn.seq (Wn.seq (Wn.reg (by simp [base]) (by rw [hfz]; kernel_rfl) ?_))
            go_wp2_with fail
            refine ⟨rfl, ?_⟩
            refine Wn.cond rfl ?_
            simp only [Bool.false_eq_true, if_false]
            refine Wn.exit rfl ?_
            have HEQ : Hid (l = bldG ys []) := by
              show _ = _
              rw [← HBL.out]
              rw [List.drop_eq_nil_of_le (by have := HK1.out; omega)]
              rfl
            obtain ⟨rows, r1, r2, r3⟩ := (HO.out.grown HI.out.g).r
            have HR2 : Hid (rows.length ≤ 8) := by
              show _ ≤ 8
              have := HEND.out
              rw [r2, List.length_map, List.length_take]
              omega
            clear e1 e5 d1 d2 d3 d4 q0
            refine Wn.open ?_
            refine Wn.span1 0 3 5 (by simp [base]) (by decide) (by decide) (by rw [hfz]; kernel_rfl) ?_
            simp only [List.take, List.drop]
            go_wp2_with fail
            refine ⟨rfl, ?_⟩
            refine Wn.opT 3 2 1 rfl (by simp [base]) rfl (by rw [hfz]; rfl) fun τ d => ?_
            refine append_script (W := w.on τ d) (p := (A8, l.length, c8)) (v := v6) (acc := rows) (ok := fun k => u1.heap.size ≤ k) rfl rfl rfl rfl (R_flat flat_kL r1 (fun _ _ => rfl) r1.1) (by have := HR2.out; omega) ?_
            intro v1 w1 hRw hgw hat
            have HO1 : Hid (Outer u1 v1 ((raws.take (i + 1)).map fun xs => bldG xs []) w1) := by
              have h := Outer.step (HO.out.g.trans HI.out.g) r1 r2 r3 (Kd.R_mono HI.out.r fun k hk => Nat.le_trans HO.out.g.size hk) hRw hgw
              rw [HEQ.out] at h
              show Outer _ _ _ _
              rw [htk.out]
              exact h
            clear hRw hgw hat r1 r2 r3
            refine Wn.span1 4 1 1 (by simp [base]) (by decide) (by decide) (by rw [hfz]; kernel_rfl) ?_
            simp only [List.take, List.drop]
            go_wp2_with fail
            refine ⟨rfl, ?_⟩
            refine Wn.range_end (n := 0) ?_
            refine Wn.inBlock ?_
            have g1 : i < 8 := HEND.out.2
            refine Wn.reg (by simp [base]) (by rw [hfz]; kernel_rfl) ?_
            go_wp2_with fail
            refine ⟨rfl, ?_⟩
            refine ih _ _ _ ⟨rfl, i + 1, v1, by have := HEND.out; omega, (by have := HEND.out; show i + 1 ≤ raws.length ∧ i + 1 ≤ 8; omega), HO1, slots14A rfl rfl rfl rfl rfl rfl rfl rfl rfl rfl⟩
      · rintro a w C1 ⟨_, k, _, _, _, hf', _⟩
        omega
    · have HO : Hid (Outer u1 v6 (scriptsG raws) w0) := by
        have e : raws.take i = raws.take 8 := by
          have := hi.out
          by_cases h : i < raws.length
          · have : i = 8 := by omega
            rw [this]
          · rw [List.take_of_length_le (by omega), List.take_of_length_le (by omega)]
        have h := HO.out
        rw [e] at h
        exact h
      have HE2 : Hid (¬ (i < raws.length ∧ i < 8)) := hend
      clear hend ih
      refine (fun HT : Hid (∀ a : Act, (∃ vs : Nat → Value, a = { tmps := #[.slice sA xs.length sc, .slice A raws.length cp, undef, undef, .bool false, .bool true, v6, num i, vs 8, vs 9, vs 10, vs 11, vs 12, vs 13, vs 14, vs 15, vs 16, vs 17, vs 18, vs 19, vs 20, vs 21, vs 22, vs 23, vs 24, vs 25, vs 26, vs 27, vs 28, vs 29, vs 30, vs 31, vs 32, vs 33, vs 34, vs 35, vs 36, vs 37, vs 38, vs 39, vs 40, vs 41, vs 42, vs 43, vs 44, vs 45, vs 46, vs 47, vs 48, vs 49, vs 50, vs 51, vs 52, vs 53, vs 54, vs 55, vs 56, vs 57, vs 58, vs 59, vs 60, vs 61, vs 62, vs 63, vs 64, vs 65, vs 66, vs 67, vs 68, vs 69, vs 70, vs 71, vs 72, vs 73, vs 74, vs 75, vs 76, vs 77, vs 78, vs 79, vs 80, vs 81, vs 82, vs 83, vs 84, vs 85, vs 86, vs 87, vs 88, vs 89, vs 90, vs 91, vs 92, vs 93, vs 94, vs 95, vs 96, vs 97, vs 98, vs 99, vs 100, vs 101, vs 102, vs 103, vs 104, vs 105, vs 106, vs 107, vs 108, vs 109, vs 110, vs 111, vs 112, vs 113, vs 114, vs 115, vs 116, vs 117, vs 118, vs 119, vs 120, vs 121, vs 122, vs 123, vs 124, vs 125, vs 126, vs 127, vs 128, vs 129, vs 130, vs 131, vs 132], defers := [] }) → Wn (ctxQ Post 2) ((base 14).at a ?tailCode) [] w0) => ?main) ?tail
      case main =>
        by_cases hil : i < raws.length
        · have h8 : ¬ i < 8 := fun h => HE2.out ⟨hil, h⟩
          have d1 : decide ((i : Int) < (raws.length : Int)) = true := decide_eq_true (by omega)
          have d2 : decide ((i : Int) < 8) = false := decide_eq_false (by omega)
          have d3 : decide (i < 8) = false := decide_eq_false h8
          have d4 : decide ((8 : Int) ≤ (i : Int)) = true := decide_eq_true (by omega)
          have d5 : (8 : Int) ≤ (i : Int) := by omega
          have d6 : decide (i < raws.length) = true := decide_eq_true hil
          clear h8
          refine Wn.seq (Wn.seq (Wn.reg (by simp [base]) (by rw [hfz]; kernel_rfl) ?_))
          go_wp2_with fail
          refine ⟨rfl, ?_⟩
          refine Wn.cond rfl ?_
          simp only [Bool.false_eq_true, if_false]
          refine Wn.exit rfl ?_
          refine HT.out _ ?_
          exact slots14A rfl rfl rfl rfl rfl rfl rfl rfl rfl rfl
        · have d1 : decide ((i : Int) < (raws.length : Int)) = false := decide_eq_false (by omega)
          have d2 : decide (i < raws.length) = false := decide_eq_false hil
          clear hil
          refine Wn.seq (Wn.seq (Wn.reg (by simp [base]) (by rw [hfz]; kernel_rfl) ?_))
          go_wp2_with fail
          refine ⟨rfl, ?_⟩
          refine Wn.cond rfl ?_
          simp only [Bool.false_eq_true, if_false]
          refine Wn.exit rfl ?_
          refine HT.out _ ?_
          exact slots14A rfl rfl rfl rfl rfl rfl rfl rfl rfl rfl
      case tail =>
        refine (show Hid _ from fun a ha => ?_)
        obtain ⟨vs, rfl⟩ := ha
        obtain ⟨SA, c6, rfl, hSc⟩ := HO.out.scr
        have HGW : Hid (Grown u w0) := HU.out.trans HO.out.g
        have h8 := scriptsG_len raws
        have h64 := scriptsG_64 raws
        have hbal := scriptsG_bal raws
        have hin := scriptsG_in raws
        clear HO
        generalize scriptsG raws = scripts at hSc h8 h64 hbal hin ⊢
        have HSC : Hid (ScrAt w0 SA scripts) := hSc
        have H8 : Hid (scripts.length ≤ 8) := h8
        have H64 : Hid (∀ l ∈ scripts, l.length ≤ 64) := h64
        have HBAL : Hid (Bal scripts) := hbal
        have HIN : Hid (∀ l ∈ scripts, ∀ c ∈ l, CalIn c) := hin
        clear hSc h8 h64 hbal hin
        by_cases h0 : scripts.length = 0
        · have e1 : decide ((scripts.length : Int) = 0) = true := decide_eq_true (by omega)
          have e2 : ((scripts.length : Int) == 0) = true := beq_iff_eq.mpr (by omega)
          have e3 : decide (scripts.length = 0) = true := decide_eq_true h0
          refine Wn.seq (Wn.seq (Wn.reg (by simp [base]) (by rw [hfz]; kernel_rfl) ?_))
          go_wp2_with fail
          refine ⟨rfl, ?_⟩
          refine Wn.cond rfl ?_
          simp only [if_true]
          refine Wn.seq (Wn.reg (by simp [base]) (by rw [hfz]; kernel_rfl) ?_)
          go_wp2_with fail
          refine ⟨rfl, ?_⟩
          refine Wn.ret ?_
          exact Wn.finish (v := .bool true) (by decide) rfl rfl Try.func14 (fun w => runT_results1 (fn := Try.f14) (t := 4) rfl _ w) rfl (fun _ => rfl) fun w hl => hpost.out w (grown_of_like HGW.out hl)
        · have e1 : decide ((scripts.length : Int) = 0) = false := decide_eq_false (by omega)
          have e2 : ((scripts.length : Int) == 0) = false := beq_eq_false_iff_ne.mpr (by omega)
          have e3 : decide (scripts.length = 0) = false := decide_eq_false h0
          have H0 : Hid (scripts.length ≠ 0) := h0
          clear h0
          refine Wn.seq (Wn.seq (Wn.reg (by simp [base]) (by rw [hfz]; kernel_rfl) ?_))
          go_wp2_with fail
          refine ⟨rfl, ?_⟩
          refine Wn.cond rfl ?_
          simp only [Bool.false_eq_true, if_false]
          clear e1 e2 e3
          refine Wn.skip (Wn.seq (Wn.open ?_))
          refine Wn.span1 0 1 3 (by simp [base]) (by decide) (by decide) (by rw [hfz]; kernel_rfl) ?_
          simp only [List.take, List.drop]
          go_wp2_with fail
          refine ⟨rfl, ?_⟩
          refine Wn.callC 1 2 1 rfl (by simp [base]) rfl rfl rfl (by kernel_rfl) ?_
          refine Wn.toP (S := S0) (l := list0) ?_
          have hC0 : kI.C w0 sA xs.length xs := C_move HSCH.out HGW.out.blk
          refine new16 rfl rfl hC0 HSL.out ?_
          intro W back sv u2 hg1 hWN hbkN hsvN hf1
          refine Wn.toQ ?_
          have HF : Hid (Fresh0 W back sv (.slice none 0 0) xs 0 [] [] u2) := hf1
          have HG : Hid (Grown u u2) := HGW.out.trans hg1
          have HWN : Hid (u.heap.size ≤ W) := Nat.le_trans HGW.out.size hWN
          have HBN : Hid (u.heap.size ≤ back) := Nat.le_trans HGW.out.size hbkN
          have HSW : Hid (ScrW W u2 SA scripts) := HSC.out.scrW hg1 hWN
          clear hf1 hg1 hWN hbkN hsvN hC0
          rw [Frame.finish_at]
          refine Wn.span1 2 1 1 (by simp [base]) (by decide) (by decide) (by rw [hfz]; kernel_rfl) ?_
          simp only [List.take, List.drop]
          go_wp2_with fail
          refine ⟨rfl, ?_⟩
          refine Wn.range_end (n := 0) ?_
          refine Wn.seq (Wn.open ?_)
          refine Wn.span1 0 2 8 (by simp [base]) (by decide) (by decide) (by rw [hfz]; kernel_rfl) ?_
          simp only [List.take, List.drop]
          go_wp2_with fail
          refine ⟨rfl, ?_⟩
          refine Wn.callC 2 6 5 rfl (by simp [base]) rfl rfl rfl (by kernel_rfl) ?_
          refine Wn.toP (S := S0) (l := list0) ?_
          have hm : mayOf scripts false = 0 := by
            unfold mayOf
            rw [if_neg, if_neg]
            · have := H0.out
              have := H8.out
              rintro (h | h | h)
              · omega
              · omega
              · cases h
            · intro h
              obtain ⟨l, hl, e⟩ := List.any_eq_true.1 h
              have := H64.out l hl
              have := of_decide_eq_true e
              omega
          obtain ⟨fin, hrun, hfn⟩ := gate_fin H8.out H64.out xs (K := 1500000) (F := 600) rfl rfl
          refine gatePlay46 (K := 1500000) (f := 600) (scripts := scripts) (fin := fin) (by decide) HF.out HSW.out (by have := H8.out; omega) HIN.out (fun _ => ⟨hrun, by have := hfn.room; unfold roomB; omega⟩) (fun h => absurd hm h) ?_
          intro _ v u4 hpl
          refine Wn.toQ ?_
          show Wn (ctxQ Post (2 + scripts.length)) _ _ _
          have hfzq : (ctxQ Post (2 + scripts.length)).fz = false := rfl
          have HG4 : Hid (Grown u u4) := hpl.grown HG.out HWN.out HBN.out
          obtain ⟨ou, ev, hrows⟩ := hpl.rows (fun l hl => by
            obtain ⟨pk, hpk, rfl⟩ := List.mem_map.1 hl
            obtain ⟨j, hj⟩ := List.mem_iff_getElem?.1 hpk
            have hjl := (List.getElem?_eq_some_iff.1 hj).1
            rw [hfn.len] at hjl
            have hs : scripts[j]? = some scripts[j] := List.getElem?_eq_getElem hjl
            rw [hfn.lens j _ pk hs hj]
            have := H64.out _ (List.getElem_mem hjl)
            omega) (Grown.refl u4)
          rw [hfn.len] at ev
          subst ev
          obtain ⟨sv', cv, vth, vtr, hw1, hw2⟩ := hpl.w
          obtain ⟨hst, hla⟩ := hfn.goes HBAL.out
          have HW5 : Hid (u4.cell? ⟨W, 5, none⟩ = some vtr) := (blk_cell hw1 5).trans rfl
          have HW6 : Hid (u4.cell? ⟨W, 6, none⟩ = some (.bool false)) := by rw [← hst]; exact (blk_cell hw1 6).trans rfl
          have HTR : Hid (Row k40 40 u4 vtr fin.1.trace) := hw2
          have HRM : Hid (fin.1.trace.length ≤ 1300000) := hfn.room
          have HLA : Hid (lastOf fin.1.trace = 0 ∨ lastOf fin.1.trace = 1) := hla
          clear hrun hfn hrows hw1 hw2 hpl hm HF HSW HSCH HSL HWN HBN HG HSC H64 HBAL HIN hst hla
          generalize (⟨ou, 0, none⟩ : Addr) = oa
          generalize fin.1.trace = tr at HTR HRM HLA
          clear fin
          rw [Frame.finish_at]
          refine Wn.span1 3 5 5 (by simp [base]) (by decide) (by decide) (by rw [hfzq]; kernel_rfl) ?_
          simp only [List.take, List.drop]
          go_wp2_with fail
          refine ⟨rfl, ?_⟩
          refine Wn.range_end (n := 0) ?_
          refine Wn.code listSt rfl rfl (by kernel_rfl) (K := restAt 4 u) (fun a w τ d h => ⟨h.1.on τ d, h.2⟩) (fun τ d => ?_) (fun a' u' todo hd h => ?_)
          rotate_left
          · exact Wn.finish (v := .bool true) (by decide) rfl hd Try.func14 (fun w => by rw [← h.2]; exact runT_results1 (fn := Try.f14) (t := 4) rfl _ w) rfl (fun _ => rfl) fun w hl => hpost.out w (grown_of_like h.1 hl)
          have HG : Hid (Grown u4 (u4.on τ d)) := (Grown.refl u4).on τ d
          generalize u4.on τ d = w at HG
          have h8 := H8.out
          go_wp2_with fail
          refine (trace_calls (HG.out.cell HW5.out) (Row.move flat_k40 HTR.out fun k hk => HG.out.blk k (Kd.R_lt HTR.out k hk)) (by have := HRM.out; unfold roomB; omega)).mono ?_
          rintro e w2 ⟨tv, rfl, hR, hg2⟩
          obtain ⟨A5, c5, rfl, hSt⟩ := steps_of_row hR
          have HG2 : Hid (Grown u4 w2) := HG.out.trans hg2
          have HST : Hid (StepsAt w2 A5 tr) := hSt
          clear hSt hR hg2 HG HTR HW5
          have hrm : tr.length ≤ 1300000 := HRM.out
          go_wp2_with fail
          go_loopg [17, 18] (tr.length + 1) (fun kq v17 v18 w' => ∃ (j : Nat) (x : Int), v18 = num j ∧ v17 = num x ∧ Aside0 (x = lastOf (tr.take j) ∧ j ≤ tr.length ∧ kq = tr.length + 1 - j) ∧ Aside0 (Grown w2 w'))
          case atStart => exact ⟨0, 0, rfl, rfl, ⟨rfl, by omega, by omega⟩, ⟨Grown.refl _⟩⟩
          case round =>
            obtain ⟨j, x, rfl, rfl, hj, HG⟩ := hrel
            by_cases hje : j < tr.length
            · have hjx : tr[j]? = some tr[j] := List.getElem?_eq_getElem hje
              obtain ⟨ad, rfl, q0, q1, q2, q3, q4⟩ := HST.out.move HG.out j _ hjx
              have HNX : Hid (lastOf (tr.take (j + 1)) = if tr[j].op = 4 then tr[j].new else x) := by
                show _ = _
                have htk : tr.take (j + 1) = tr.take j ++ [tr[j]] := by rw [List.take_add_one, hjx]; rfl
                rw [htk, lastOf_snoc, ← hj.out.1]
              generalize tr[j] = s at q0 q1 q2 q3 q4 HNX
              obtain ⟨xt, xc, xo, xa, xb⟩ := s
              dsimp only at q0 q1 q2 q3 q4 HNX
              have e1 : decide ((j : Int) < (tr.length : Int)) = true := decide_eq_true (by omega)
              have e2 : decide ((0 : Int) ≤ (j : Int)) = true := decide_eq_true (by omega)
              have e3 : (j : Int) < (tr.length : Int) := by omega
              have e4 : (0 : Int) ≤ (j : Int) := by omega
              clear hjx
              by_cases o4 : xo = 4
              · subst o4
                go_wp2_with fail
                go_roundg (tr.length - j)
                case measure => have := hj.out; omega
                case rel => exact ⟨j + 1, xb, rfl, rfl, ⟨by rw [HNX.out]; simp, by omega, by omega⟩, ⟨HG.out⟩⟩
              · have o5 : decide (xo = 4) = false := decide_eq_false o4
                have o6 : (xo == 4) = false := beq_eq_false_iff_ne.mpr o4
                have O4 : Hid (¬ xo = 4) := o4
                clear o4
                go_wp2_with fail
                go_roundg (tr.length - j)
                case measure => have := hj.out; omega
                case rel => exact ⟨j + 1, x, rfl, rfl, ⟨by rw [HNX.out, if_neg O4.out], by omega, by omega⟩, ⟨HG.out⟩⟩
            · have hjl : j = tr.length := by have := hj.out; omega
              have e1 : decide ((j : Int) < (tr.length : Int)) = false := decide_eq_false (by omega)
              have e2 : decide (j < tr.length) = false := decide_eq_false (by omega)
              have hx : x = 0 ∨ x = 1 := by
                have hx : x = lastOf tr := by rw [hj.out.1, hjl, List.take_length]
                rw [hx]; exact HLA.out
              have HW6 : Hid (wr.cell? ⟨W, 6, none⟩ = some (.bool false)) := (HG2.out.trans HG.out).cell HW6.out
              clear hjl
              rcases hx with rfl | rfl
              all_goals
                go_wp2_with fail
                refine (stuck_calls HW6.out).mono ?_
                rintro e w5 ⟨rfl, rfl⟩
                go_wp2_with fail
                exact ⟨rfl, HG4.out.trans (HG2.out.trans HG.out), rfl⟩
  · rintro a u1 C1 ⟨_, i, _, hf', _⟩
    omega
end Go.Proofs.Ytoabkcalphpkhaa

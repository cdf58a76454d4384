/- A list of fields in cells: as it lies in a row of the call's own, and the law's copy of it. -/
import Derived.Test.YtodfbhogfakieaaHWordAsks
namespace Go.Proofs.Ytodfbhogfakieaa.PWordAsks
open Go.RowKit Go.Proofs.YtodfbhogfakieaaW.PrintWords Go.Proofs.YtodfbhogfakieaaW.PrintLast Go.Proofs.YtodfbhogfakieaaW.PrintMore
set_option linter.unusedVariables false
set_option linter.unusedSimpArgs false

/-- The cells of a list of fields. -/
def flat : List S26 → List Value
  | [] => []
  | f :: l => .int .i64 f.f0 :: .int .i64 f.f1 :: flat l
theorem flat_len : ∀ l : List S26, (flat l).length = 2 * l.length
  | [] => rfl
  | f :: l => by simp only [flat, List.length_cons, flat_len l]; omega
theorem flat_at : ∀ (l : List S26) (j : Nat), (flat l)[j]? = (l[j / 2]?).bind fun f => [Value.int .i64 f.f0, .int .i64 f.f1][j % 2]?
  | [], j => by simp [flat]
  | f :: l, 0 => by simp [flat]
  | f :: l, 1 => by simp [flat]
  | f :: l, j + 2 => by
    have := flat_at l j
    simp only [flat, List.getElem?_cons_succ, this]
    rw [show (j + 2) / 2 = j / 2 + 1 by omega, show (j + 2) % 2 = j % 2 by omega, List.getElem?_cons_succ]
theorem flat_one : ∀ (l : List S26) (v : Value), v ∈ flat l → v.oneCell' = true
  | [], v, h => by simp [flat] at h
  | f :: l, v, h => by
    simp only [flat, List.mem_cons] at h
    rcases h with rfl | rfl | h
    · rfl
    · rfl
    · exact flat_one l v h
theorem flat_pair {l : List S26} {j i : Nat} {f : S26} {u : Value} (h : l[j]? = some f) (hu : [Value.int .i64 f.f0, .int .i64 f.f1][i]? = some u) : (flat l)[j * 2 + i]? = some u := by
  have hi : i < 2 := by
    rcases Nat.lt_or_ge i 2 with h1 | h1
    · exact h1
    · rw [List.getElem?_eq_none (by simpa using h1)] at hu; cases hu
  rw [flat_at, show (j * 2 + i) / 2 = j by omega, show (j * 2 + i) % 2 = i by omega, h]
  exact hu
theorem flat_src {w : World} {A : Option Addr} {n : Nat} {l : List S26} (h : Kd.C k26 w A n l) (hn : 0 < n) : ∃ ad, A = some ad ∧ ∀ j v, (flat l)[j]? = some v → w.cell? (ad.add j) = some v := by
  obtain ⟨_, _, h3⟩ := h
  obtain ⟨ad, rfl, hc⟩ := h3 hn
  refine ⟨ad, rfl, fun j v hv => ?_⟩
  rw [flat_at] at hv
  obtain ⟨f, hf, hv⟩ := Option.bind_eq_some_iff.1 hv
  obtain ⟨cs, _, hK, hcell⟩ := hc _ _ hf
  obtain rfl := k26_open hK
  have := hcell (j % 2) v hv
  rwa [show j / 2 * k26.sz + j % 2 = j from by show j / 2 * 2 + j % 2 = j; omega] at this
/-- A row of one's own that begins with the list, read as the list. -/
theorem C_block {w : World} {g : Nat} {cur : Array Value} {t : TypeId} {l : List S26} {rest : List Value} (hg : w.heap[g]? = some (.cells cur t (0, 0))) (hc : cur.toList = flat l ++ rest) (hmax : l.length ≤ 9223372036854775807) : Kd.C k26 w (some ⟨g, 0, none⟩) l.length l := by
  refine ⟨rfl, hmax, fun _ => ⟨_, rfl, fun j p hp => ⟨_, rfl, k26_mk w p, fun i u hu => ?_⟩⟩⟩
  rw [add_plain, cell_of_row w g _ cur t (0, 0) hg, ← Array.getElem?_toList, hc, List.getElem?_append_left (by
    have h1 := flat_pair hp hu
    rcases Nat.lt_or_ge (j * 2 + i) (flat l).length with h2 | h2
    · exact h2
    · rw [List.getElem?_eq_none h2] at h1; cases h1)]
  exact flat_pair hp hu
theorem size26 : (Try.prog.info? 26).map (·.size) = some 2 := by
  have := info26
  cases h : Try.prog.info? 26 with
  | none => rw [h] at this; cases this
  | some i => rw [h] at this; simp only [Option.map_some, Option.some.injEq, Prod.mk.injEq] at this; simp [this.2.1]
section
variable {ops : Array Oper} {rest : List Oper} {o : Oper} {a : Act} {Q : Exit → Act → World → Prop}
/-- copy(own, l), own longer by one. -/
theorem wp_copy26 {w0 W : World} (hgd : o.guard = none) (s x : Operand) (ho : o.op = .call { callee := .builtin .copy, args := #[s, x], argTypes := #[27, 27] }) (g cap n c : Nat) (A : Option Addr) (l : List S26) (hnl : l.length = n)
    (hs : a.eval s = .slice (some ⟨g, 0, none⟩) (n + 1) cap) (hx : a.eval x = .slice A n c) (cur : Array Value) (hg : W.heap[g]? = some (.cells cur 26 (0, 0))) (hfit : 2 * n ≤ cur.size)
    (hC : Kd.C k26 W A n l) (HB : Below w0.heap.size w0 W) (hbase : w0.heap.size ≤ g)
    (h : ∀ w1 cur', w1.heap[g]? = some (.cells cur' 26 (0, 0)) → cur'.size = cur.size → cur'.toList = flat l ++ cur.toList.drop (2 * n) → Below w0.heap.size w0 w1 → wpList Try.prog ops Q rest (a.put o.dst (.int .i64 (n : Int))) w1) :
    wpList Try.prog ops Q (o :: rest) a W := by
  have hfl : (flat l).length = n * 2 := by rw [flat_len, hnl]; omega
  have hst := run_storeCells_cells (P := Try.prog) g 0 (flat l) 0 W (fun j hj => by rw [cell_of_row W g _ cur 26 (0, 0) hg]; simp; omega) (fun j _ => blk_frozen hg _) (flat_one l)
  simp only [Nat.add_zero] at hst
  have hload : (Builtin.firstCells 2 n (.slice A n c)).run Try.prog W = .ok (flat l).toArray W := by
    rcases Nat.eq_zero_or_pos n with h0 | hp
    · obtain rfl : l = [] := List.eq_nil_of_length_eq_zero (by omega)
      subst h0
      cases A with
      | none => rfl
      | some ad => simpa [Builtin.firstCells, flat] using run_loadCells_list (P := Try.prog) W ad [] (by simp)
    · obtain ⟨ad, rfl, hsrc⟩ := flat_src hC hp
      have := run_loadCells_list (P := Try.prog) W ad (flat l) hsrc
      rw [hfl] at this
      exact this
  obtain ⟨i, hi, hsz⟩ := Option.map_eq_some_iff.1 size26
  have hr : (Builtin.copy_ #[27, 27] o.type #[.slice (some ⟨g, 0, none⟩) (n + 1) cap, .slice A n c]).run Try.prog W = .ok (goInt (n : Int)) (W.setCells g 0 (flat l)) := by
    have hmin : Nat.min n (n + 1) = n := Nat.min_eq_left (by omega)
    have hlen : Builtin.lenOf (.slice A n c) = pure n := rfl
    simp only [Builtin.copy_, run_underlying Try.underlying27, Sem.run_bind, Result.andThen_ok, hlen, Sem.run_pure, hmin, sizeOf, typeInfo, hi, hsz, hload, hst, List.getElem?_toArray, List.getElem?_cons_zero, List.getElem?_cons_succ]
    simp [hst, run_underlying Try.underlying27, hlen, hmin, hi, hsz, hload, typeInfo, sizeOf]
  obtain ⟨cur', h3, h4, h5⟩ := setCells_row (flat l) 0 W cur hg (by rw [hfl]; omega)
  obtain ⟨s1, s2, s3, s4⟩ := setCells_same g (flat l) 0 W
  refine wpList_plain hgd fun K hK => ?_
  unfold Oper.wp execOp
  simp only [ho, resolve, invoke, builtin, Sem.run_bind, Sem.run_pure, Result.andThen_ok, List.map_toArray, List.map_cons, List.map_nil, hs, hx, hr]
  exact hK _ _ (h _ cur' h3 h4 (by rw [h5, List.take_zero, List.nil_append, Nat.zero_add, hfl, Nat.mul_comm]) (HB.trans ⟨s1, s2, s3, by rw [s4]; exact Nat.le_refl _, fun k hk => setCells_far _ _ k (by omega)⟩))
/-- own[n] = f. -/
theorem wp_last26 {w0 W : World} (hgd : o.guard = none) (hN : o.dst = none) (p x : Operand) (ho : o.op = .store 26 p x) (g n : Nat) (l : List S26) (hnl : l.length = n) (f : S26)
    (hp : a.eval p = .pointer (some ⟨g, n * 2, none⟩)) (hx : a.eval x = .agg #[.int .i64 f.f0, .int .i64 f.f1]) (cur : Array Value) (hg : W.heap[g]? = some (.cells cur 26 (0, 0))) (hfit : 2 * n + 2 ≤ cur.size) {R : List Value}
    (hc : cur.toList = flat l ++ R) (HB : Below w0.heap.size w0 W) (hbase : w0.heap.size ≤ g)
    (h : ∀ w1 cur' R', w1.heap[g]? = some (.cells cur' 26 (0, 0)) → cur'.toList = flat (l ++ [f]) ++ R' → Below w0.heap.size w0 w1 → wpList Try.prog ops Q rest a w1) :
    wpList Try.prog ops Q (o :: rest) a W := by
  have hfl : (flat l).length = n * 2 := by rw [flat_len, hnl]; omega
  have hrun := run_store_run (P := Try.prog) (w := W) (g := g) (o := n * 2) (e := 26) (cur := cur) 26 (.agg #[.int .i64 f.f0, .int .i64 f.f1]) [.int .i64 f.f0, .int .i64 f.f1] hg rfl size26 (by simp; omega) (by intro q hq; simp at hq; rcases hq with rfl | rfl <;> rfl)
  obtain ⟨cur', h3, h4, h5⟩ := setCells_row [Value.int .i64 f.f0, .int .i64 f.f1] (n * 2) W cur hg (by simp; omega)
  obtain ⟨s1, s2, s3, s4⟩ := setCells_same g [Value.int .i64 f.f0, .int .i64 f.f1] (n * 2) W
  refine wpList_plain hgd fun K hK => ?_
  unfold Oper.wp execOp
  simp only [ho, hp, hx, Sem.run_bind, Sem.run_pure, Result.andThen_ok, hrun]
  show K (a.put o.dst undef) _
  rw [hN]
  have happ : ∀ l : List S26, flat (l ++ [f]) = flat l ++ [.int .i64 f.f0, .int .i64 f.f1] := by
    intro l
    induction l with
    | nil => rfl
    | cons y l ih => simp only [List.cons_append, flat, ih]
  exact hK a _ (h _ cur' (cur.toList.drop (n * 2 + 2)) h3 (by rw [h5, hc, happ, ← hfl, List.take_left]; rfl) (HB.trans ⟨s1, s2, s3, by rw [s4]; exact Nat.le_refl _, fun k hk => setCells_far _ _ k (by omega)⟩))
end
end Go.Proofs.Ytodfbhogfakieaa.PWordAsks

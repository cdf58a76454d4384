/- Merged: Builds. -/
import Derived.Test.YtoabkcalphpkhaaN23
import Derived.Test.YtoabkcalphpkhaaN13
/- Scripts that a law builds: calls appended to a script, scripts appended to the row of scripts. -/
namespace Go.Proofs.Ytoabkcalphpkhaa
open Go Go.Conc Go.RowKit
open Go.Proofs.YtoabkcalphpkhaaW.PrintWords
set_option linter.unusedVariables false
set_option linter.unusedSimpArgs false
set_option linter.unusedSectionVars false
set_option maxRecDepth 100000

abbrev k36 : Kd Cal := Kd.iso (Kd.pair (Kd.int .i64) (Kd.pair (Kd.int .i64) (Kd.pair (Kd.int .i64) (Kd.int .i64)))) (fun x => (x.op, x.a, x.b, x.c))
theorem flat_k36 : Flat k36 := flat_iso (flat_pair (flat_scalar _ _) (flat_pair (flat_scalar _ _) (flat_pair (flat_scalar _ _) (flat_scalar _ _)))) _
abbrev kL : Kd (Option Addr × Nat × Nat) := Kd.scalar (fun x => .slice x.1 x.2.1 x.2.2) (fun _ => rfl)
theorem flat_kL : Flat kL := flat_scalar _ _
theorem info36 : (Try.prog.info? 36).map (fun i => (i.zero, i.size, i.bytes)) = some (some (.agg #[num 0, num 0, num 0, num 0]), 4, 32) := by kernel_rfl
theorem info32 : (Try.prog.info? 32).map (fun i => (i.zero, i.size, i.bytes)) = some (some (.slice none 0 0), 1, 24) := by kernel_rfl

theorem append_call {a : Act} {ops : Array Oper} {o : Oper} {s x : Operand} (ho : o.op = .call { callee := .builtin .append, args := #[s, x], argTypes := #[32, 32] }) (hgd : o.guard = none) {W : World} {v : Value} {acc : List Cal} {p : Cal} {ok : Nat → Prop} (hs : a.eval s = v) (hx : a.eval x = .slice (some ⟨W.heap.size, 0, none⟩) 1 1)
    (HO : k36.R 36 W 0 ok v acc) (hl : acc.length < 1000) {Q : Act → World → Prop}
    (h : ∀ v1 w1, k36.R 36 w1 0 (fun k => ok k ∨ W.heap.size ≤ k) v1 (acc ++ [p]) → W.grownBy w1 v.ownBlock → (v1.ownBlock = v.ownBlock ∨ ∃ b, v1.ownBlock = some b ∧ W.heap.size ≤ b) → Q (a.put o.dst v1) w1) :
    wpList Try.prog ops (Only Q) [o] a (W.alloc (.cells #[num p.op, num p.a, num p.b, num p.c] 36)) := by
  refine Kd.R_append k36 (w0 := W) (base := 0) hgd s x 32 36 (.agg #[num 0, num 0, num 0, num 0]) 32 ho Try.underlying32 info36 rfl (by decide) (by decide) v acc p [num p.op, num p.a, num p.b, num p.c] (fun k => ok k ∨ W.heap.size ≤ k) (fun _ => False) hs hx
    ⟨[num p.op], _, rfl, rfl, [num p.a], _, rfl, rfl, [num p.b], [num p.c], rfl, rfl, rfl⟩ (fun _ h => h.elim) (fun k hk => .inr hk) (Kd.R_mono HO fun k hk => .inl hk) (Below.refl 0 W) (Nat.zero_le _) (by omega) ?_
  intro v1 w1 hR _ hg hat
  exact h v1 w1 hR hg hat
theorem append_script {a : Act} {ops : Array Oper} {o : Oper} {s x : Operand} (ho : o.op = .call { callee := .builtin .append, args := #[s, x], argTypes := #[23, 23] }) (hgd : o.guard = none) {W : World} {v : Value} {acc : List (Option Addr × Nat × Nat)} {p : Option Addr × Nat × Nat} {ok : Nat → Prop} (hs : a.eval s = v) (hx : a.eval x = .slice (some ⟨W.heap.size, 0, none⟩) 1 1)
    (HO : kL.R 32 W 0 ok v acc) (hl : acc.length < 1000) {Q : Act → World → Prop}
    (h : ∀ v1 w1, kL.R 32 w1 0 (fun k => ok k ∨ W.heap.size ≤ k) v1 (acc ++ [p]) → W.grownBy w1 v.ownBlock → (v1.ownBlock = v.ownBlock ∨ ∃ b, v1.ownBlock = some b ∧ W.heap.size ≤ b) → Q (a.put o.dst v1) w1) :
    wpList Try.prog ops (Only Q) [o] a (W.alloc (.cells #[.slice p.1 p.2.1 p.2.2] 32)) := by
  refine Kd.R_append kL (w0 := W) (base := 0) hgd s x 23 32 (.slice none 0 0) 24 ho Try.underlying23 info32 rfl (by decide) (by decide) v acc p [.slice p.1 p.2.1 p.2.2] (fun k => ok k ∨ W.heap.size ≤ k) (fun _ => False) hs hx
    rfl (fun _ h => h.elim) (fun k hk => .inr hk) (Kd.R_mono HO fun k hk => .inl hk) (Below.refl 0 W) (Nat.zero_le _) (by omega) ?_
  intro v1 w1 hR _ hg hat
  exact h v1 w1 hR hg hat

/-- A script under way: its block is younger than w0. -/
structure Inner (w0 : World) (v : Value) (l : List Cal) (w : World) : Prop where
  g : Grown w0 w
  r : k36.R 36 w 0 (fun k => w0.heap.size ≤ k) v l
theorem Inner.start (w : World) : Inner w (.slice none 0 0) [] w := ⟨Grown.refl _, Kd.R_nil _ _ _ _ _⟩
theorem Inner.step {w0 w w1 : World} {v v1 : Value} {l l1 : List Cal} {τ : Nat → Question → Nat} {d : Nat} (h : Inner w0 v l w) (hR : k36.R 36 w1 0 (fun k => w0.heap.size ≤ k ∨ w.heap.size ≤ k) v1 l1) (hg : (w.on τ d).grownBy w1 v.ownBlock) : Inner w0 v1 l1 w1 := by
  have hs := h.g.size
  refine ⟨⟨fun b hb => (hg.block b (Nat.lt_of_lt_of_le hb hs) fun e => ?_).trans (h.g.blk b hb), Nat.le_trans hs hg.size, hg.os.trans h.g.os, hg.output.trans h.g.out⟩, Kd.R_mono hR fun k hk => ?_⟩
  · have := h.r.1 b e.symm
    omega
  · rcases hk with h | h <;> omega
/-- Scripts that are done. -/
structure Outer (u : World) (v : Value) (scripts : List (List Cal)) (w : World) : Prop where
  g : Grown u w
  r : ∃ rows : List (Option Addr × Nat × Nat), kL.R 32 w 0 (fun k => u.heap.size ≤ k) v rows ∧ rows.length = scripts.length ∧ ∀ (i : Nat) r l, rows[i]? = some r → scripts[i]? = some l → k36.R 36 w 0 (fun k => u.heap.size ≤ k) (.slice r.1 r.2.1 r.2.2) l
theorem Outer.start (w : World) : Outer w (.slice none 0 0) [] w := ⟨Grown.refl _, [], Kd.R_nil _ _ _ _ _, rfl, fun i r l h => by simp at h⟩
theorem Outer.grown {u w w' : World} {v : Value} {scripts : List (List Cal)} (h : Outer u v scripts w) (hg : Grown w w') : Outer u v scripts w' := by
  obtain ⟨rows, h1, h2, h3⟩ := h.r
  exact ⟨h.g.trans hg, rows, R_flat flat_kL h1 (fun k hk => hg.blk k (Kd.R_lt h1 k hk)) h1.1, h2, fun i r l hr hl => R_flat flat_k36 (h3 i r l hr hl) (fun k hk => hg.blk k (Kd.R_lt (h3 i r l hr hl) k hk)) (h3 i r l hr hl).1⟩
theorem Outer.step {u w w1 : World} {v v1 : Value} {scripts : List (List Cal)} {l : List Cal} {A : Option Addr} {n c : Nat} {τ : Nat → Question → Nat} {d : Nat} {rows : List (Option Addr × Nat × Nat)} (hgr : Grown u w) (h1 : kL.R 32 w 0 (fun k => u.heap.size ≤ k) v rows) (h2 : rows.length = scripts.length) (h3 : ∀ (i : Nat) r l, rows[i]? = some r → scripts[i]? = some l → k36.R 36 w 0 (fun k => u.heap.size ≤ k) (.slice r.1 r.2.1 r.2.2) l)
    (hl : k36.R 36 w 0 (fun k => u.heap.size ≤ k) (.slice A n c) l) (hR : kL.R 32 w1 0 (fun k => u.heap.size ≤ k ∨ w.heap.size ≤ k) v1 (rows ++ [(A, n, c)])) (hg : (w.on τ d).grownBy w1 v.ownBlock) : Outer u v1 (scripts ++ [l]) w1 := by
  have hs := hgr.size
  have hmv : ∀ {v' : Value} {l' : List Cal}, k36.R 36 w 0 (fun k => u.heap.size ≤ k) v' l' → k36.R 36 w1 0 (fun k => u.heap.size ≤ k) v' l' := fun {v' l'} h => by
    refine R_flat flat_k36 h (fun k hk => hg.block k (Kd.R_lt h k hk) fun e => ?_) h.1
    obtain ⟨c1, e1⟩ := own_ty (Kd.R_mono h fun _ _ => trivial) hk
    obtain ⟨c2, e2⟩ := own_ty (Kd.R_mono h1 fun _ _ => trivial) e.symm
    rw [e1] at e2
    injection e2 with e2
    injection e2 with _ e2
    exact absurd e2 (by decide)
  refine ⟨⟨fun b hb => (hg.block b (Nat.lt_of_lt_of_le hb hs) fun e => ?_).trans (hgr.blk b hb), Nat.le_trans hs hg.size, hg.os.trans hgr.os, hg.output.trans hgr.out⟩, rows ++ [(A, n, c)], Kd.R_mono hR fun k hk => ?_, by simp [h2], fun i r l' hr hl' => ?_⟩
  · have := h1.1 b e.symm
    omega
  · rcases hk with h | h <;> omega
  · by_cases hi : i < rows.length
    · rw [List.getElem?_append_left hi] at hr
      rw [List.getElem?_append_left (by omega)] at hl'
      exact hmv (h3 i r l' hr hl')
    · rw [List.getElem?_append_right (by omega)] at hr
      rw [List.getElem?_append_right (by omega)] at hl'
      have hi0 : i - rows.length = 0 := by
        have := (List.getElem?_eq_some_iff.1 hr).1
        simp at this
        omega
      rw [hi0] at hr
      rw [← h2, hi0] at hl'
      simp at hr hl'
      subst hr; subst hl'
      exact hmv hl
theorem scr_of_row {u : World} {A : Option Addr} {n c : Nat} {l : List Cal} {ok : Nat → Prop} (h : k36.R 36 u 0 ok (.slice A n c) l) : n = l.length ∧ Scr u A l := by
  obtain ⟨A', c', e, hle, hC⟩ := Kd.R_reads h
  injection e with e1 e2 e3
  subst e1
  refine ⟨e2, fun k x hk => ?_⟩
  have hlt := (List.getElem?_eq_some_iff.1 hk).1
  obtain ⟨g, cap, e4⟩ := own_slice h (by omega)
  injection e4 with e5 e6 e7
  subst e5
  obtain ⟨ad, ea, hc⟩ := hC.2.2 (by omega)
  cases ea
  obtain ⟨cc, h1, hR, hcell⟩ := hc k x hk
  obtain ⟨c0, c1, rfl, h6, d0, d1, rfl, h7, f0, f1, rfl, h8, h9⟩ := hR
  obtain rfl : c0 = [num x.op] := h6
  obtain rfl : d0 = [num x.a] := h7
  obtain rfl : f0 = [num x.b] := h8
  obtain rfl : f1 = [num x.c] := h9
  refine ⟨_, rfl, hcell 0 (num x.op) rfl, ?_, ?_, ?_⟩
  · have := hcell 1 (num x.a) rfl
    rw [addr_add] at this ⊢
    exact this
  · have := hcell 2 (num x.b) rfl
    rw [addr_add] at this ⊢
    exact this
  · have := hcell 3 (num x.c) rfl
    rw [addr_add] at this ⊢
    exact this
theorem Outer.scr {u w : World} {v : Value} {scripts : List (List Cal)} (h : Outer u v scripts w) : ∃ A c, v = .slice A scripts.length c ∧ ScrAt w A scripts := by
  obtain ⟨rows, h1, h2, h3⟩ := h.r
  obtain ⟨A, c, e, hle, hC⟩ := Kd.R_reads h1
  refine ⟨A, c, by rw [e, h2], fun i l hl => ?_⟩
  have hlt := (List.getElem?_eq_some_iff.1 hl).1
  have hr : rows[i]? = some rows[i] := List.getElem?_eq_getElem (by omega)
  obtain ⟨hn, hs⟩ := scr_of_row (h3 i _ l hr hl)
  obtain ⟨g, cap, e2⟩ := own_slice h1 (by omega)
  rw [e2] at e
  injection e with e1 e3 e4
  subst e1
  obtain ⟨ad, ea, hc⟩ := hC.2.2 (by omega)
  cases ea
  obtain ⟨cc, h4, hR, hcell⟩ := hc i _ hr
  have hR : cc = [.slice rows[i].1 rows[i].2.1 rows[i].2.2] := hR
  rw [hR] at hcell
  refine ⟨_, rows[i].1, rows[i].2.2, rfl, ?_, hs⟩
  have := hcell 0 _ rfl
  rw [← hn]
  have e9 : i * kL.sz + 0 = i := by show i * 1 + 0 = i; omega
  rw [e9] at this
  exact this
end Go.Proofs.Ytoabkcalphpkhaa

/- Merged: Tails. -/
import Derived.Test.YtoabkcalphpkhaaN20
/- What the laws' own tails share: contracts of the lone machine, what of memory stays. -/
namespace Go.Proofs.Ytoabkcalphpkhaa
open Go Go.Conc Go.RowKit
open Go.Proofs.YtoabkcalphpkhaaW.PrintWords
set_option linter.unusedVariables false
set_option linter.unusedSimpArgs false
set_option linter.unusedSectionVars false
set_option maxRecDepth 100000

/-- (*World).Trace, of a world: the lone machine's contract. -/
theorem trace_calls {w : World} {W : Nat} {vtr : Value} {tr : List St5} (h5 : w.cell? ⟨W, 5, none⟩ = some vtr) (hR : Row k40 40 w vtr tr) (hl : tr.length ≤ roomB) :
    Calls Try.prog 18 #[ptr W] w fun e w' => ∃ v, e = .returned v ∧ k40.R 40 w' 0 (fun k => w.heap.size ≤ k) v tr ∧ Grown w w' := by
  have hl40 : tr.length * 40 ≤ 140737488355328 := by unfold roomB at hl; omega
  obtain ⟨A, c, e, _, hC⟩ := Kd.R_reads hR
  subst e
  clear hl
  have HL : Hid _ := hl40
  have HC : Hid _ := hC
  clear hl40 hR hC
  go_enter Try.func18, Try.ntmps18
  go_wp2_with (first
    | ((with_reducible refine gate_builtin (b := .append) rfl ?_); refine Kd.R_append_rows k40 (w0 := w) 0 rfl (.const (.slice none 0 0)) (.tmp 8) 37 40 _ 40 rfl Try.underlying37 info40 rfl (by decide) (by decide) (.slice none 0 0) [] tr A tr.length c (fun k => w.heap.size ≤ k) (fun _ => False) rfl rfl (Kd.R_nil _ _ _ _ _) HC.out (fun _ _ h => h) (fun _ h => h.elim) (fun _ h => h) (Below.refl 0 w) (Nat.zero_le _) (by simpa using HL.out) ?_; intro v1 w1 hR1 _ hg1 _; have hgr : Grown w w1 := ⟨fun b hb => hg1.block b hb (fun e => by cases e), hg1.size, hg1.os, hg1.output⟩; have HN : Hid _ := hR1; have HG : Hid _ := hgr; obtain ⟨A1, c1, e1⟩ := Kd.R_slice hR1; subst e1; clear hR1 hg1 hgr)
    | fail)
  go_ret
  exact ⟨_, rfl, HN.out, HG.out⟩
/-- The scripts, as they can be read. -/
def ScrAt (u : World) (SA : Option Addr) (scripts : List (List Cal)) : Prop :=
  ∀ (i : Nat) (l : List Cal), scripts[i]? = some l → ∃ ad A cp, SA = some ad ∧ u.cell? (ad.add i) = some (.slice A l.length cp) ∧ Scr u A l
theorem Scr.lt {u : World} {A : Option Addr} {l : List Cal} (h : Scr u A l) (hl : l ≠ []) : ∃ aa, A = some aa ∧ aa.block < u.heap.size := by
  obtain ⟨c, l', rfl⟩ := List.exists_cons_of_ne_nil hl
  obtain ⟨ad, e, h0, _⟩ := h 0 c rfl
  refine ⟨ad, e, ?_⟩
  have := World.block_lt_of_cell? u _ h0
  rwa [add_block] at this
theorem ScrAt.move {u w : World} {SA : Option Addr} {scripts : List (List Cal)} (h : ScrAt u SA scripts) (hb : ∀ b, b < u.heap.size → w.heap[b]? = u.heap[b]?) : ScrAt w SA scripts := fun i l hl => by
  obtain ⟨ad, A, cp, h1, h2, h3⟩ := h i l hl
  refine ⟨ad, A, cp, h1, ?_, ?_⟩
  · rw [World.cell?_of_block (w := u) (hb _ (World.block_lt_of_cell? u _ h2))]; exact h2
  · by_cases hl0 : l = []
    · subst hl0
      intro i c hc
      cases hc
    · obtain ⟨aa, e, hlt⟩ := h3.lt hl0
      exact h3.move fun a' ea => by rw [e] at ea; cases ea; exact hb _ hlt
theorem ScrAt.scrW {u u1 : World} {W : Nat} {SA : Option Addr} {scripts : List (List Cal)} (h : ScrAt u SA scripts) (hg : Grown u u1) (hW : u.heap.size ≤ W) : ScrW W u1 SA scripts := fun i l hl => by
  obtain ⟨ad, A, cp, h1, h2, h3⟩ := h i l hl
  obtain ⟨ad', A', cp', k1, k2, k3⟩ := h.move hg.blk i l hl
  rw [h1] at k1
  cases k1
  have h2' := hg.cell h2
  rw [k2] at h2'
  cases h2'
  refine ⟨ad, _, _, h1, ?_, fun aa e hl0 => ?_, k2, k3⟩
  · have := World.block_lt_of_cell? u _ h2
    rw [add_block] at this
    omega
  · obtain ⟨aa', e', hlt⟩ := h3.lt hl0
    rw [e] at e'
    cases e'
    omega

def restK (u : World) (a : Act) (w : World) : Prop := Grown u w ∧ a.tmps.getD 6 undef = .bool true
theorem grown_of_like {u u1 w : World} (hg : Grown u u1) (hl : Like (fun _ => none) w u1) : Grown u w := ⟨fun b hb => (hl.blk b rfl).symm.trans (hg.blk b hb), by rw [← hl.size]; exact hg.size, hl.os.symm.trans hg.os, hl.out.symm.trans hg.out⟩
theorem Played.grown {W back : Nat} {fin : Sys × List Park} {u u1 u4 : World} {v : Value} (h : Played W back fin u1 u4 v) (hg : Grown u u1) (hW : u.heap.size ≤ W) (hb : u.heap.size ≤ back) : Grown u u4 := by
  obtain ⟨out, oc, _, h2, h3, _⟩ := h.v
  have h4 := blk_lt h3
  refine ⟨fun b hlt => ?_, by have := hg.size; omega, h.os.trans hg.os, h.outp.trans hg.out⟩
  have h1 : b < u1.heap.size := Nat.lt_of_lt_of_le hlt hg.size
  rw [h.keep b _ (Array.getElem?_eq_getElem h1) (by omega) (by omega), ← hg.blk b hlt, Array.getElem?_eq_getElem h1]
theorem AnsRows.move {u w : World} {A : Option Addr} {xs : List (List Ans)} (h : AnsRows u A xs) (hg : Grown u w) : AnsRows w A xs := fun i l hl => by
  obtain ⟨ad, Ai, ci, h1, h2, h3, h4⟩ := h i l hl
  refine ⟨ad, Ai, ci, h1, hg.cell h2, h3, fun k a hk => ?_⟩
  obtain ⟨bd, h5, h6, h7⟩ := h4 k a hk
  exact ⟨bd, h5, hg.cell h6, hg.cell h7⟩
theorem AnsRows.on {u : World} {A : Option Addr} {xs : List (List Ans)} (h : AnsRows u A xs) (τ d) : AnsRows (u.on τ d) A xs := h.move ((Grown.refl u).on τ d)
/-- A trace, as it can be read. -/
def StepsAt (u : World) (A : Option Addr) (l : List St5) : Prop :=
  ∀ (j : Nat) (x : St5), l[j]? = some x → ∃ bd, A = some bd ∧ u.cell? (bd.add (j * 5)) = some (num x.th) ∧ u.cell? ⟨(bd.add (j * 5)).block, (bd.add (j * 5)).off + 1, none⟩ = some (num x.ce) ∧ u.cell? ⟨(bd.add (j * 5)).block, (bd.add (j * 5)).off + 2, none⟩ = some (num x.op) ∧ u.cell? ⟨(bd.add (j * 5)).block, (bd.add (j * 5)).off + 3, none⟩ = some (num x.old) ∧ u.cell? ⟨(bd.add (j * 5)).block, (bd.add (j * 5)).off + 4, none⟩ = some (num x.new)
theorem StepsAt.move {u w : World} {A : Option Addr} {l : List St5} (h : StepsAt u A l) (hg : Grown u w) : StepsAt w A l := fun j x hx => by
  obtain ⟨bd, h1, h2, h3, h4, h5, h6⟩ := h j x hx
  exact ⟨bd, h1, hg.cell h2, hg.cell h3, hg.cell h4, hg.cell h5, hg.cell h6⟩
theorem steps_of_row {u : World} {v : Value} {l : List St5} {ok : Nat → Prop} (h : k40.R 40 u 0 ok v l) : ∃ A c, v = .slice A l.length c ∧ StepsAt u A l := by
  obtain ⟨A, c, e, hle, hC⟩ := Kd.R_reads h
  refine ⟨A, c, e, fun k a hk => ?_⟩
  have hlt := (List.getElem?_eq_some_iff.1 hk).1
  obtain ⟨g, cap, e2⟩ := own_slice h (by omega)
  rw [e2] at e
  injection e with e1 e3 e4
  subst e1
  obtain ⟨ad, ea, hc⟩ := hC.2.2 (by omega)
  cases ea
  obtain ⟨cc, h1, hR, hcell⟩ := hc k a hk
  obtain ⟨c0, c1, rfl, r0, c2, c3, rfl, r1, c4, c5, rfl, r2, c6, c7, rfl, r3, r4⟩ := hR
  have r0 : c0 = [num a.th] := r0
  have r1 : c2 = [num a.ce] := r1
  have r2 : c4 = [num a.op] := r2
  have r3 : c6 = [num a.old] := r3
  have r4 : c7 = [num a.new] := r4
  subst r0; subst r1; subst r2; subst r3; subst r4
  have g0 := hcell 0 (num a.th) rfl
  have g1 := hcell 1 (num a.ce) rfl
  have g2 := hcell 2 (num a.op) rfl
  have g3 := hcell 3 (num a.old) rfl
  have g4 := hcell 4 (num a.new) rfl
  rw [addr_add] at g1 g2 g3 g4
  refine ⟨_, rfl, g0, ?_, ?_, ?_, ?_⟩ <;> (rw [addr_add]; assumption)
theorem zip_get {α β : Type} {l : List α} {o : List β} {k : Nat} {a : α} {b : β} (h1 : l[k]? = some a) (h2 : o[k]? = some b) : (l.zip o)[k]? = some (a, b) := by
  rw [List.getElem?_zip_eq_some]; exact ⟨h1, h2⟩
theorem zip_take {α β : Type} {l : List α} {o : List β} {k : Nat} {a : α} {b : β} (h1 : l[k]? = some a) (h2 : o[k]? = some b) : (l.zip o).take (k + 1) = (l.zip o).take k ++ [(a, b)] := by
  rw [List.take_add_one, zip_get h1 h2]; rfl
theorem rows_take {α β : Type} {ls : List (List α)} {os : List (List β)} {i : Nat} {l : List α} {o : List β} (h1 : ls[i]? = some l) (h2 : os[i]? = some o) : ((List.zipWith List.zip ls os).take (i + 1)).flatten = ((List.zipWith List.zip ls os).take i).flatten ++ l.zip o := by
  rw [List.take_add_one, List.getElem?_zipWith, h1, h2]
  simp
theorem step_take {α : Type} {P P' l l' : List α} {x : α} (h : P' = P ++ l) (hl : l' = l ++ [x]) : P' ++ [x] = P ++ l' := by rw [h, hl, List.append_assoc]
theorem drew_grown (w : World) (n : Nat) : Grown w (w.drewN n) := ⟨fun b hb => rfl, Nat.le_refl _, rfl, rfl⟩
end Go.Proofs.Ytoabkcalphpkhaa

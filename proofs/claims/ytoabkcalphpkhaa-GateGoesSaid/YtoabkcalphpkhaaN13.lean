/- Merged: One. -/
import Derived.Test.YtoabkcalphpkhaaN12
/- play.one: a script, call by call, by whoever goes. (Printed by gen_one.py.) -/
namespace Go.Proofs.Ytoabkcalphpkhaa
open Go Go.Conc Go.RowKit
open Go.Proofs.YtoabkcalphpkhaaW.PrintWords
set_option linter.unusedVariables false
set_option linter.unusedSimpArgs false
set_option linter.unusedSectionVars false
set_option maxRecDepth 100000

def CalIn (c : Cal) : Prop := In64 c.op ∧ In64 c.a ∧ In64 c.b ∧ In64 c.c
/-- A call of a script is carried out by that function. -/
def DoOK (M : Mode) (fid : FuncId) (caps : Array Value) (doP : Cal → (Ans → Proc) → Proc) : Prop :=
  ∀ {c : Cal} {k : Ans → Proc} {F : Nat → Prop} {u : World} {C : Ctx Try.prog} {fr : Frame} {cs : List Frame}, CalIn c → M.At (.go (doP c k)) F u C →
    (∀ a F' u' C', M.At (.go (k a)) F' u' C' → (∀ b, F b → F' b) → Keep F u u' → Wn C' (fr.finish (ansV a)) cs u') → Wn C (Frame.enter Try.prog fid (#[ptr M.T, callV c] ++ caps) .normal) (fr :: cs) u
/-- A script in memory. -/
def Scr (u : World) (A : Option Addr) (l : List Cal) : Prop :=
  ∀ (i : Nat) (c : Cal), l[i]? = some c → ∃ ad, A = some ad ∧ u.cell? (ad.add (i * 4)) = some (num c.op) ∧ u.cell? ⟨(ad.add (i * 4)).block, (ad.add (i * 4)).off + 1, none⟩ = some (num c.a) ∧ u.cell? ⟨(ad.add (i * 4)).block, (ad.add (i * 4)).off + 2, none⟩ = some (num c.b) ∧ u.cell? ⟨(ad.add (i * 4)).block, (ad.add (i * 4)).off + 3, none⟩ = some (num c.c)
def roOn (M : Mode) (u : World) : Prop := ∀ b o, M.ro b = some o → u.heap[b]? = some o

theorem info34' : (Try.prog.info? 34).map (fun i => (i.zero, i.size, i.bytes)) = some (some (.agg #[.int .i64 0, .int .i64 0]), 2, 16) := by kernel_rfl
theorem make34 {a : Act} {o : Oper} {x y : Operand} (ho : o.op = .makeSlice 31 x y) {n : Nat} (hn : n ≤ 64) (hx : a.eval x = num 0) (hy : a.eval y = num n) (w : World) :
    (execOp a.eval o).run Try.prog w = .ok (.value (.slice (some ⟨w.heap.size, 0, none⟩) 0 n)) (w.alloc (.cells (madeCells (Value.agg #[.int .i64 0, .int .i64 0]).cells (n * 2)) 34)) := by
  obtain ⟨i0, hi, hzz⟩ := Option.map_eq_some_iff.1 info34'
  simp only [Prod.mk.injEq] at hzz
  obtain ⟨hz0, hz1, hz2⟩ := hzz
  have hr := run_make (P := Try.prog) w 31 34 i0 _ Try.underlying31 hi hz0 .i64 .i64 0 (n : Int) (by omega) (by omega) (by rw [hz2]; omega) (by omega)
  simp only [Int.toNat_natCast, hz1] at hr
  simp [execOp, ho, hx, hy, hr]
theorem made_row {u : World} (n : Nat) (hn : n ≤ 64) {ok : Nat → Prop} (hok : ok u.heap.size) : kA.R 34 (u.alloc (.cells (madeCells (Value.agg #[.int .i64 0, .int .i64 0]).cells (n * 2)) 34)) 0 ok (.slice (some ⟨u.heap.size, 0, none⟩) 0 n) [] := by
  refine ⟨fun k hk => ?_, [], ⟨by simp, .inr ⟨u.heap.size, n, _, rfl, Nat.zero_le _, heap_alloc_new u _, Nat.zero_le _, by unfold maxLen; omega, ?_, by simp⟩⟩, ⟨by simp, fun j p hj => by simp at hj⟩⟩
  · have : u.heap.size = k := by simpa [Value.ownBlock] using hk
    exact this ▸ hok
  · have e : kA.sz = 2 := rfl
    rw [e]
    simp [size_madeCells]

/-- append of one answer that stands in a block of its own. -/
theorem append_ans {a : Act} {ops : Array Oper} {o : Oper} {s x : Operand} (ho : o.op = .call { callee := .builtin .append, args := #[s, x], argTypes := #[31, 31] }) (hgd : o.guard = none) {W : World} {v : Value} {acc : List Ans} {p : Ans} {ok : Nat → Prop} (hs : a.eval s = v) (hx : a.eval x = .slice (some ⟨W.heap.size, 0, none⟩) 1 1)
    (HO : kA.R 34 W 0 ok v acc) (hl : acc.length < 64) {Q : Act → World → Prop}
    (h : ∀ v1 w1, kA.R 34 w1 0 (fun k => ok k ∨ W.heap.size ≤ k) v1 (acc ++ [p]) → W.grownBy w1 v.ownBlock → (v1.ownBlock = v.ownBlock ∨ ∃ b, v1.ownBlock = some b ∧ W.heap.size ≤ b) → Q (a.put o.dst v1) w1) :
    wpList Try.prog ops (Only Q) [o] a (W.alloc (.cells #[num p.code, num p.val] 34)) := by
  refine Kd.R_append kA (w0 := W) (base := 0) hgd s x 31 34 (.agg #[.int .i64 0, .int .i64 0]) 16 ho Try.underlying31 info34' rfl (by decide) (by decide) v acc p [num p.code, num p.val] (fun k => ok k ∨ W.heap.size ≤ k) (fun _ => False) hs hx
    ⟨[num p.code], [num p.val], rfl, rfl, rfl⟩ (fun _ h => h.elim) (fun k hk => .inr hk) (Kd.R_mono HO fun k hk => .inl hk) (Below.refl 0 W) (Nat.zero_le _) (by omega) ?_
  intro v1 w1 hR _ hg hat
  exact h v1 w1 hR hg hat

/-- What a thread appends to is its own. -/
theorem Mode.appended (M : Mode) {p : Stat} {F : Nat → Prop} {u w1 : World} {C : Ctx Try.prog} {v v1 : Value} {acc acc' : List Ans} (h : M.At p F u C) (HO : kA.R 34 u 0 F v acc) {τ : Nat → Question → Nat} {d : Nat} (hR : kA.R 34 w1 0 (fun k => F k ∨ u.heap.size ≤ k) v1 acc') (hg : (u.on τ d).grownBy w1 v.ownBlock) :
    ∃ F1, M.At p F1 w1 C ∧ (∀ b, F b → F1 b) ∧ kA.R 34 w1 0 F1 v1 acc' ∧ ∀ G : Nat → Prop, (∀ b, G b → b < u.heap.size ∧ v.ownBlock ≠ some b) → Keep G u w1 := by
  refine ⟨fun b => F b ∨ (u.heap.size ≤ b ∧ b < w1.heap.size), M.grow h (fun b hb hF => hg.block b hb fun e => hF (HO.1 b e.symm)) hg.size hg.os hg.output, fun b hb => .inl hb, ?_, fun G hG b hb => hg.block b (hG b hb).1 fun e => (hG b hb).2 e.symm⟩
  refine R_flat flat_kA hR (fun _ _ => rfl) fun k hk => ?_
  rcases hR.1 k hk with h1 | h1
  · exact .inl h1
  · exact .inr ⟨h1, Kd.R_lt hR k hk⟩

section
variable {M : Mode} {F : Nat → Prop} {u : World} {C : Ctx Try.prog} {fr : Frame} {cs : List Frame}
set_option maxHeartbeats 2000000 in
theorem one76 {fid : FuncId} {caps : Array Value} {doP : Cal → (Ans → Proc) → Proc} (hdo : DoOK M fid caps doP) (hbd : bodied Try.prog fid = true) {A : Option Addr} {cp : Nat} {l : List Cal} (hlen : l.length ≤ 64) (hin : ∀ c ∈ l, CalIn c)
    (hs : ∀ u, roOn M u → Scr u A l) (h : M.At (.go (oneP doP 0 l [])) F u C)
    (hn : ∀ v out F' u' C', M.At (.go (.ret out)) F' u' C' → (∀ b, F b → F' b) → Keep F u u' → kA.R 34 u' 0 F' v out → (∀ k, v.ownBlock = some k → ¬ F k) → Wn C' (fr.finish v) cs u') :
    Wn C (Frame.enter Try.prog 76 #[ptr M.T, .slice A l.length cp, .func (.func fid) #[] caps] .normal) (fr :: cs) u := by
  have hfz := (M.plain h).1
  have hlt := M.lt h
  refine Wn.body Try.func76 rfl ?_
  simp only [Try.ntmps76, List.size_toArray, List.length_cons, List.length_nil, Nat.reduceAdd, Nat.reduceSub, Array.replicate_succ, Array.replicate_zero, List.push_toArray, List.append_toArray, List.nil_append, List.cons_append]
  refine Wn.seq (Wn.reg (by simp [base]) (by rw [hfz]; kernel_rfl) ?_)
  go_wp2_with fail
  refine ⟨rfl, ?_⟩
  refine Wn.seq (Wn.open ?_)
  refine Wn.span1 0 2 4 (by simp [base]) (by decide) (by decide) (by rw [hfz]; kernel_rfl) ?_
  simp only [List.take, List.drop]
  go_wp2_with fail
  refine ⟨rfl, ?_⟩
  refine Wn.opT 2 2 1 rfl (by simp [base]) rfl (by rw [hfz]; rfl) fun τ d => ?_
  refine wpList_plain rfl fun K hK => ?_
  unfold Oper.wp
  rw [make34 (n := l.length) rfl hlen rfl rfl]
  refine hK _ _ (?_ : Wn C _ _ _)
  refine Wn.on (u := u.alloc (.cells (madeCells (Value.agg #[.int .i64 0, .int .i64 0]).cells (l.length * 2)) 34)) ?_ τ d
  obtain ⟨F0, h0, hF0, hk0, hFn, hbn⟩ := M.one h (.cells (madeCells (Value.agg #[.int .i64 0, .int .i64 0]).cells (l.length * 2)) 34)
  have hrow := made_row (u := u) l.length hlen hFn
  have hnb : ∀ k, (Value.slice (some ⟨u.heap.size, 0, none⟩) 0 l.length).ownBlock = some k → ¬ F k := fun k hk hF => by
    have : u.heap.size = k := by simpa [Value.ownBlock] using hk
    have := hlt k hF
    omega
  have hsz : (u.on τ d).heap.size = u.heap.size := rfl
  rw [hsz]
  clear hsz hK K
  generalize u.alloc (.cells (madeCells (Value.agg #[.int .i64 0, .int .i64 0]).cells (l.length * 2)) 34) = u0 at h0 hk0 hbn hrow ⊢
  refine Wn.span1 3 1 1 (by simp [base]) (by decide) (by decide) (by rw [hfz]; kernel_rfl) ?_
  simp only [List.take, List.drop]
  go_wp2_with fail
  refine ⟨rfl, ?_⟩
  refine Wn.range_end ?_
  refine Wn.seq (Wn.reg (by simp [base]) (by rw [hfz]; kernel_rfl) ?_)
  go_wp2_with fail
  refine ⟨rfl, ?_⟩
  refine Wn.seq (Wn.seq (Wn.reg (by simp [base]) (by rw [hfz]; kernel_rfl) ?_))
  go_wp2_with fail
  refine ⟨rfl, ?_⟩
  refine Wn.block ?_
  refine Wn.loop_ind (f := l.length - 0 + 1) (fun f a u1 C1 => ∃ (i : Nat) (acc : List Ans) (stuck : Bool) (v : Value) (F1 : Nat → Prop), f = l.length - i + 1 ∧ i ≤ l.length ∧ acc.length = i ∧ M.At (.go (if stuck then .ret (acc ++ (l.drop i).map fun _ => ⟨4, 0⟩) else oneP doP i (l.drop i) acc)) F1 u1 C1 ∧ (∀ b, F b → F1 b) ∧ Keep F u u1 ∧ (kA.R 34 u1 0 F1 v acc ∧ ∀ k, v.ownBlock = some k → ¬ F k) ∧ ∃ x3 x4 x5 x6 x9 x10 x11 x12 x13 x14 x18 x19 x20 x21 x22 x23 x24 x25 x26 x27 x28 x29 x30 x31 x32 x33 x34 x35 x36 x37 x38 x39 x40 x41 x42 x43 x44 x45 x46 x47, a = { tmps := #[ptr M.T, .slice A l.length cp, .func (.func fid) #[] caps, x3, x4, x5, x6, v, .bool stuck, x9, x10, x11, x12, x13, x14, .slice A l.length cp, num l.length, num i, x18, x19, x20, x21, x22, x23, x24, x25, x26, x27, x28, x29, x30, x31, x32, x33, x34, x35, x36, x37, x38, x39, x40, x41, x42, x43, x44, x45, x46, x47], defers := [] }) ?_ ?_ ⟨0, [], false, _, F0, rfl, Nat.zero_le _, rfl, h0, hF0, hk0, ⟨hrow, hnb⟩, _, _, _, _, _, _, _, _, _, _, _, _, _, _, _, _, _, _, _, _, _, _, _, _, _, _, _, _, _, _, _, _, _, _, _, _, _, _, _, _, rfl⟩
  · rintro f ih a u1 C1 ⟨i, acc, stuck, v, F1, hf, hi, hacc, h1, hF1, hk1, ⟨hR, hnF⟩, x3, x4, x5, x6, x9, x10, x11, x12, x13, x14, x18, x19, x20, x21, x22, x23, x24, x25, x26, x27, x28, x29, x30, x31, x32, x33, x34, x35, x36, x37, x38, x39, x40, x41, x42, x43, x44, x45, x46, x47, rfl⟩
    have hfz1 := (M.plain h1).1
    by_cases hend : i < l.length
    · have d1 : decide ((i : Int) < (l.length : Int)) = true := decide_eq_true (by omega)
      refine Wn.seq (Wn.reg (by simp [base]) (by rw [hfz1]; kernel_rfl) ?_)
      go_wp2_with fail
      refine ⟨rfl, ?_⟩
      refine Wn.seq (Wn.cond rfl ?_)
      simp only [if_true]
      clear d1
      have hc : l[i]? = some l[i] := List.getElem?_eq_getElem hend
      have hdrop : l.drop i = l[i] :: l.drop (i + 1) := List.drop_eq_getElem_cons hend
      rw [hdrop] at h1
      generalize hci : l[i] = c at hc hdrop h1
      have hcin : CalIn c := hin c (List.mem_of_getElem? hc)
      obtain ⟨ad, rfl, q0, q1, q2, q3⟩ := hs u1 (M.rof h1) i c hc
      have d1 : decide ((i : Int) < (l.length : Int)) = true := decide_eq_true (by omega)
      have d2 : decide ((0 : Int) ≤ (i : Int)) = true := decide_eq_true (by omega)
      have d3 : (i : Int) < (l.length : Int) := by omega
      have d4 : (0 : Int) ≤ (i : Int) := by omega
      refine Wn.skip (Wn.seq (Wn.block ?_))
      refine Wn.seq (Wn.reg (by simp [base]) (by rw [hfz1]; kernel_rfl) ?_)
      go_wp2_with fail
      refine ⟨rfl, ?_⟩
      clear d1 d2 d3 d4 q0 q1 q2 q3
      obtain ⟨F2, h2, hF2, hk2, hFc, hbc⟩ := M.one h1 (.cells #[num c.op, num c.a, num c.b, num c.c] 36 (0, 0))
      have hR2 : kA.R 34 (u1.alloc (.cells #[num c.op, num c.a, num c.b, num c.c] 36 (0, 0))) 0 F2 v acc := R_flat flat_kA hR (fun k hk => heap_alloc (Kd.R_lt hR k hk)) (fun k hk => hF2 k (hR.1 k hk))
      have hFF2 : ∀ b, F b → F2 b := fun b hb => hF2 b (hF1 b hb)
      have hkk2 := hk1.trans' hF1 hk2
      generalize u1.alloc (.cells #[num c.op, num c.a, num c.b, num c.c] 36 (0, 0)) = u2 at h2 hk2 hbc hR2 hkk2 ⊢
      generalize u1.heap.size = cb at hFc hbc ⊢
      clear hk2 h1 hR hF2
      have hl2 := M.lt h2
      refine Wn.seq (Wn.seq (Wn.reg (by simp [base]) (by rw [hfz1]; kernel_rfl) ?_))
      go_wp2_with fail
      refine ⟨rfl, ?_⟩
      refine Wn.cond rfl ?_
      cases stuck with
      | true =>
        simp only [if_true] at h2 ⊢
        refine Wn.seq (Wn.open ?_)
        refine Wn.span1 0 3 5 (by simp [base]) (by decide) (by decide) (by rw [hfz1]; kernel_rfl) ?_
        simp only [List.take, List.drop]
        go_wp2_with fail
        refine ⟨rfl, ?_⟩
        refine Wn.opT 3 2 1 rfl (by simp [base]) rfl (by rw [hfz1]; rfl) fun τ d => ?_
        refine append_ans (W := u2.on τ d) (p := ⟨4, 0⟩) (s := .tmp 23) (x := .tmp 25) (v := v) (acc := acc) (ok := F2) rfl rfl rfl rfl (R_flat flat_kA hR2 (fun _ _ => rfl) hR2.1) (by omega) ?_
        intro v1 w1 hRw hgw hat
        obtain ⟨F3, h3, hF3, hR3, hkp⟩ := M.appended h2 hR2 hRw hgw
        have hk3 := hkp F (fun b hb => ⟨hl2 b (hFF2 b hb), fun e => hnF b e hb⟩)
        have hnF3 : ∀ k, v1.ownBlock = some k → ¬ F k := fun k hk hF => by
          rcases hat with e | ⟨b, e, hb⟩
          · exact hnF k (e ▸ hk) hF
          · rw [hk] at e
            injection e with e
            have := hl2 k (hFF2 k hF)
            have hb' : u2.heap.size ≤ b := hb
            omega
        refine Wn.span1 4 1 1 (by simp [base]) (by decide) (by decide) (by rw [hfz1]; kernel_rfl) ?_
        simp only [List.take, List.drop]
        go_wp2_with fail
        refine ⟨rfl, ?_⟩
        refine Wn.range_end (Wn.exit rfl ?_)
        refine Wn.reg (by simp [base]) (by rw [hfz1]; kernel_rfl) ?_
        go_wp2_with fail
        refine ⟨rfl, ?_⟩
        refine ih _ _ _ ⟨i + 1, acc ++ [⟨4, 0⟩], true, v1, F3, by omega, by omega, by simp [hacc], ?_, fun b hb => hF3 b (hFF2 b hb), hkk2.trans hk3, ⟨hR3, hnF3⟩, _, _, _, _, _, _, _, _, _, _, _, _, _, _, _, _, _, _, _, _, _, _, _, _, _, _, _, _, _, _, _, _, _, _, _, _, _, _, _, _, rfl⟩
        simpa using h3
      | false =>
        simp only [Bool.false_eq_true, if_false, oneP] at h2 ⊢
        refine Wn.skip (Wn.seq (Wn.open ?_))
        refine Wn.span1 0 2 3 (by simp [base]) (by decide) (by decide) (by rw [hfz1]; kernel_rfl) ?_
        simp only [List.take, List.drop]
        go_wp2_with fail
        refine ⟨rfl, ?_⟩
        refine Wn.callC 2 1 0 rfl (by simp [base]) rfl rfl rfl (by kernel_rfl) ?_
        refine M.note h2 ?_
        intro u3 h3 hk3
        rw [Frame.finish_at]
        refine Wn.range_end ?_
        have hbc3 : u3.heap[cb]? = some (.cells #[num c.op, num c.a, num c.b, num c.c] 36 (0, 0)) := (hk3 cb hFc).trans hbc
        have c0 : u3.cell? ⟨cb, 0, none⟩ = some (.int .i64 c.op) := (blk_cell hbc3 0).trans rfl
        have c1 : u3.cell? ⟨cb, 1, none⟩ = some (.int .i64 c.a) := (blk_cell hbc3 1).trans rfl
        have c2 : u3.cell? ⟨cb, 2, none⟩ = some (.int .i64 c.b) := (blk_cell hbc3 2).trans rfl
        have c3 : u3.cell? ⟨cb, 3, none⟩ = some (.int .i64 c.c) := (blk_cell hbc3 3).trans rfl
        refine Wn.seq (Wn.open ?_)
        refine Wn.span1 0 3 6 (by simp [base]) (by decide) (by decide) (by rw [hfz1]; kernel_rfl) ?_
        simp only [List.take, List.drop]
        go_wp2_with fail
        refine ⟨rfl, ?_⟩
        clear c0 c1 c2 c3
        refine Wn.callV 3 3 2 rfl (by simp [base]) rfl rfl rfl rfl hbd ?_
        refine hdo hcin h3 ?_
        intro an F4 u4 C4 h4 hF4 hk4
        rw [Frame.finish_at]
        have hfz4 := (M.plain h4).1
        have hR4 : kA.R 34 u4 0 F4 v acc := R_flat flat_kA hR2 (fun k hk => (hk4 k (hR2.1 k hk)).trans (hk3 k (hR2.1 k hk))) (fun k hk => hF4 k (hR2.1 k hk))
        have hkk4 := (hkk2.trans' hFF2 hk3).trans' hFF2 hk4
        simp only [ansV]
        refine Wn.span1 4 2 2 (by simp [base]) (by decide) (by decide) (by rw [hfz4]; kernel_rfl) ?_
        simp only [List.take, List.drop]
        go_wp2_with fail
        refine ⟨rfl, ?_⟩
        refine Wn.range_end ?_
        obtain ⟨F5, h5, hF5, hk5, hFr, hbr⟩ := M.one h4 (.cells #[num an.code, num an.val] 34 (0, 0))
        have hvr : v.ownBlock ≠ some u4.heap.size := fun e => by have := Kd.R_lt hR4 _ e; omega
        have hR5 : kA.R 34 (u4.alloc (.cells #[num an.code, num an.val] 34 (0, 0))) 0 F5 v acc := R_flat flat_kA hR4 (fun k hk => heap_alloc (Kd.R_lt hR4 k hk)) (fun k hk => hF5 k (hR4.1 k hk))
        have hFF5 : ∀ b, F b → F5 b := fun b hb => hF5 b (hF4 b (hFF2 b hb))
        have hkk5 := hkk4.trans' (fun b hb => hF4 b (hFF2 b hb)) hk5
        generalize u4.alloc (.cells #[num an.code, num an.val] 34 (0, 0)) = u5 at h5 hk5 hbr hR5 hkk5 ⊢
        generalize u4.heap.size = rb at hFr hbr hvr ⊢
        clear hk5 hR4 hkk4 h4 hk4
        have r0 : u5.cell? ⟨rb, 0, none⟩ = some (.int .i64 an.code) := (blk_cell hbr 0).trans rfl
        refine Wn.seq (Wn.open ?_)
        refine Wn.span1 0 4 5 (by simp [base]) (by decide) (by decide) (by rw [hfz4]; kernel_rfl) ?_
        simp only [List.take, List.drop]
        go_wp2_with fail
        refine ⟨rfl, ?_⟩
        refine Wn.callC 4 1 0 rfl (by simp [base]) rfl rfl rfl (by kernel_rfl) ?_
        clear r0
        refine M.note h5 ?_
        intro u6 h6 hk6
        rw [Frame.finish_at]
        refine Wn.range_end ?_
        have hbr6 : u6.heap[rb]? = some (.cells #[num an.code, num an.val] 34 (0, 0)) := (hk6 rb hFr).trans hbr
        have r0 : u6.cell? ⟨rb, 0, none⟩ = some (.int .i64 an.code) := (blk_cell hbr6 0).trans rfl
        have r1 : u6.cell? ⟨rb, 1, none⟩ = some (.int .i64 an.val) := (blk_cell hbr6 1).trans rfl
        have hR6 : kA.R 34 u6 0 F5 v acc := R_flat flat_kA hR5 (fun k hk => hk6 k (hR5.1 k hk)) hR5.1
        have hl6 := M.lt h6
        have hkk6 := hkk5.trans' hFF5 hk6
        refine Wn.seq (Wn.open ?_)
        refine Wn.span1 0 3 5 (by simp [base]) (by decide) (by decide) (by rw [hfz4]; kernel_rfl) ?_
        simp only [List.take, List.drop]
        go_wp2_with fail
        refine ⟨rfl, ?_⟩
        clear r0 r1
        refine Wn.opT 3 2 1 rfl (by simp [base]) rfl (by rw [hfz4]; rfl) fun τ d => ?_
        refine append_ans (W := u6.on τ d) (p := an) (s := .tmp 39) (x := .tmp 41) (v := v) (acc := acc) (ok := F5) rfl rfl rfl rfl (R_flat flat_kA hR6 (fun _ _ => rfl) hR6.1) (by omega) ?_
        intro v1 w1 hRw hgw hat
        obtain ⟨F7, h7, hF7, hR7, hkp⟩ := M.appended h6 hR6 hRw hgw
        have hk7 := hkp F (fun b hb => ⟨hl6 b (hFF5 b hb), fun e => hnF b e hb⟩)
        have hbr7 : w1.heap[rb]? = some (.cells #[num an.code, num an.val] 34 (0, 0)) := (hkp (fun b => b = rb) (fun b hb => by subst hb; exact ⟨hl6 b hFr, hvr⟩) rb rfl).trans hbr6
        have hnF7 : ∀ k, v1.ownBlock = some k → ¬ F k := fun k hk hF => by
          rcases hat with e | ⟨b, e, hb⟩
          · exact hnF k (e ▸ hk) hF
          · rw [hk] at e
            injection e with e
            have := hl6 k (hFF5 k hF)
            have hb' : u6.heap.size ≤ b := hb
            omega
        refine Wn.span1 4 1 1 (by simp [base]) (by decide) (by decide) (by rw [hfz4]; kernel_rfl) ?_
        simp only [List.take, List.drop]
        go_wp2_with fail
        refine ⟨rfl, ?_⟩
        refine Wn.range_end ?_
        have r0 : w1.cell? ⟨rb, 0, none⟩ = some (.int .i64 an.code) := (blk_cell hbr7 0).trans rfl
        by_cases e4 : an.code = 4
        · have d1 : (an.code == 4) = true := beq_iff_eq.mpr e4
          have d1' : decide (an.code = 4) = true := decide_eq_true e4
          simp only [if_pos e4] at h7
          clear e4
          refine Wn.reg (by simp [base]) (by rw [hfz4]; kernel_rfl) ?_
          go_wp2_with fail
          refine ⟨rfl, ?_⟩
          refine Wn.inBlock ?_
          refine Wn.reg (by simp [base]) (by rw [hfz4]; kernel_rfl) ?_
          go_wp2_with fail
          refine ⟨rfl, ?_⟩
          refine ih _ _ _ ⟨i + 1, acc ++ [an], true, v1, F7, by omega, by omega, by simp [hacc], ?_, fun b hb => hF7 b (hFF5 b hb), hkk6.trans hk7, ⟨hR7, hnF7⟩, _, _, _, _, _, _, _, _, _, _, _, _, _, _, _, _, _, _, _, _, _, _, _, _, _, _, _, _, _, _, _, _, _, _, _, _, _, _, _, _, rfl⟩
          simpa using h7
        · have d1 : (an.code == 4) = false := beq_eq_false_iff_ne.mpr e4
          have d1' : decide (an.code = 4) = false := decide_eq_false e4
          simp only [if_neg e4] at h7
          clear e4
          refine Wn.reg (by simp [base]) (by rw [hfz4]; kernel_rfl) ?_
          go_wp2_with fail
          refine ⟨rfl, ?_⟩
          refine Wn.inBlock ?_
          refine Wn.reg (by simp [base]) (by rw [hfz4]; kernel_rfl) ?_
          go_wp2_with fail
          refine ⟨rfl, ?_⟩
          refine ih _ _ _ ⟨i + 1, acc ++ [an], false, v1, F7, by omega, by omega, by simp [hacc], ?_, fun b hb => hF7 b (hFF5 b hb), hkk6.trans hk7, ⟨hR7, hnF7⟩, _, _, _, _, _, _, _, _, _, _, _, _, _, _, _, _, _, _, _, _, _, _, _, _, _, _, _, _, _, _, _, _, _, _, _, _, _, _, _, _, rfl⟩
          simpa using h7
    · have hil : i = l.length := by omega
      have d1 : decide ((i : Int) < (l.length : Int)) = false := decide_eq_false (by omega)
      refine Wn.seq (Wn.reg (by simp [base]) (by rw [hfz1]; kernel_rfl) ?_)
      go_wp2_with fail
      refine ⟨rfl, ?_⟩
      refine Wn.seq (Wn.cond rfl ?_)
      simp only [Bool.false_eq_true, if_false]
      clear d1
      refine Wn.exit rfl ?_
      refine Wn.seq (Wn.reg (by simp [base]) (by rw [hfz1]; kernel_rfl) ?_)
      go_wp2_with fail
      refine ⟨rfl, ?_⟩
      refine Wn.ret ?_
      refine Wn.back rfl rfl Try.func76 (results_tmp rfl _ _ _) ?_
      refine hn v acc F1 u1 C1 ?_ hF1 hk1 hR hnF
      have e : l.drop i = [] := List.drop_eq_nil_of_le (by omega)
      rw [e] at h1
      cases stuck
      · exact h1
      · simpa using h1
  · rintro a u1 C1 ⟨i, acc, stuck, v, F1, hf, _⟩
    omega
end
end Go.Proofs.Ytoabkcalphpkhaa

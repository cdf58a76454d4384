/- Merged: Draw. -/
import Derived.Test.YtoabkcalphpkhaaN10
import Derived.Conc.CompanyDraw
/- A region whose order is drawn, and that holds a call in company. No program in sight. -/
namespace Go.Proofs.Ytoabkcalphpkhaa
open Go Go.Conc
set_option linter.unusedVariables false
set_option linter.unusedSimpArgs false
set_option linter.unusedSectionVars false

section
variable {P : Program} {C : Ctx P} {cs : List Frame} {b : Frame} {a : Act} {k : List Item} {ops : Array Oper} {u : World}

def readyAt (ops : Array Oper) (listed : Array Bool) : List Nat :=
  (List.range ops.size).filter fun i => !listed.getD i true && ((ops[i]?).map (·.after.all fun e => !Region.binds .any e || listed.getD e.on false)).getD false
theorem go_acc (m : Region.Mode) : ∀ (n t : Nat) (listed : Array Bool) (acc : List Nat), Region.linearise.go m ops n t listed acc = acc.reverse ++ Region.linearise.go m ops n t listed []
  | 0, _, _, acc => by simp [Region.linearise.go]
  | n + 1, t, listed, acc => by
    unfold Region.linearise.go
    dsimp only
    split
    · rename_i i hi
      rw [go_acc m n _ _ (i :: acc), go_acc m n _ _ [i]]
      simp
    · simp
theorem go_succ (n t : Nat) (listed : Array Bool) (h : readyAt ops listed ≠ []) : ∃ i ∈ readyAt ops listed, ∃ t', Region.linearise.go .any ops (n + 1) t listed [] = i :: Region.linearise.go .any ops n t' (listed.setIfInBounds i true) [] := by
  have hl : t % (readyAt ops listed).length < (readyAt ops listed).length := Nat.mod_lt _ (List.length_pos_iff.2 h)
  refine ⟨(readyAt ops listed)[t % (readyAt ops listed).length], List.getElem_mem _, t / (readyAt ops listed).length, ?_⟩
  rw [Region.linearise.go]
  show (match (readyAt ops listed)[t % (readyAt ops listed).length]? with | some i => _ | none => _) = _
  rw [List.getElem?_eq_getElem hl]
  dsimp only
  rw [go_acc]
  rfl

/-- Where edges go back, something is ready as long as something is not listed. -/
theorem ready_live {listed : Array Bool} (hE : (ops.toList.zipIdx.all fun p => p.1.after.all fun e => decide (e.on < p.2)) = true) (hx : ∃ i, i < ops.size ∧ listed.getD i true = false) (hl : ∀ i, i < ops.size → listed.getD i false = listed.getD i true) : readyAt ops listed ≠ [] := by
  obtain ⟨i, ⟨hi, hf⟩, hmin⟩ := least hx
  have hmem : i ∈ readyAt ops listed := by
    refine List.mem_filter.2 ⟨List.mem_range.2 hi, ?_⟩
    have ho : ops[i]? = some ops[i] := Array.getElem?_eq_getElem hi
    rw [hf, ho]
    simp only [Bool.not_false, Option.map_some, Option.getD_some, Bool.true_and, Array.all_eq_true_iff_forall_mem]
    intro e he
    have h1 := List.all_eq_true.1 hE (ops[i], i) (List.mem_zipIdx_iff_getElem?.2 (by simp))
    have h2 : e.on < i := by simpa using (Array.all_eq_true_iff_forall_mem.1 h1) e he
    have h3 : listed.getD e.on true = true := by
      cases hc : listed.getD e.on true with
      | true => rfl
      | false => exact absurd ⟨by omega, hc⟩ (hmin e.on h2)
    rw [hl e.on (by omega), h3]
    simp
  exact fun e => by rw [e] at hmem; cases hmem

/-- A region that draws its order: whatever comes up. -/
theorem Wn.draw_any {id : Nat} (J : Nat → Array Bool → Act → World → Ctx P → Prop) (hdep : Region.departs ops = false)
    (start : J ops.size (Array.replicate ops.size false) a u C)
    (live : ∀ n listed a u C, J (n + 1) listed a u C → readyAt ops listed ≠ [])
    (step : ∀ n listed a u C, J (n + 1) listed a u C → ∀ i ∈ readyAt ops listed, ∀ rest, (∀ a' u' C', J n (listed.setIfInBounds i true) a' u' C' → Wn C' (b.at a' (.inRegion ops rest :: k)) cs u') → Wn C (b.at a (.inRegion ops (i :: rest) :: k)) cs u)
    (done : ∀ listed a u C, J 0 listed a u C → Wn C (b.at a k) cs u) : Wn C (b.at a (.code (.region id ops true) :: k)) cs u := by
  have key : ∀ n t listed a u C, J n listed a u C → Wn C (b.at a (.inRegion ops (Region.linearise.go .any ops n t listed []) :: k)) cs u := by
    intro n
    induction n with
    | zero => exact fun t listed a u C h => Wn.region_end (done listed a u C h)
    | succ n ih =>
      intro t listed a u C h
      obtain ⟨i, hi, t', e⟩ := go_succ (ops := ops) n t listed (live n listed a u C h)
      rw [e]
      exact step n listed a u C h i hi _ fun a' u' C' h' => ih t' _ a' u' C' h'
  intro w hl hf
  refine Win.go rfl fun d => ⟨_, _, _, stepG_region_draw, by simp, floor_on hf w.tape (d + 1), ?_⟩
  have e : ∀ t, Region.schedule (P.follows .mixedOrders) ops t = Region.linearise .any ops t := fun t => by unfold Region.schedule; simp [hdep]
  rw [e]
  exact key _ _ _ _ _ _ start _ (like_w hl w.tape (d + 1)) (floor_on hf w.tape (d + 1))

/-- A call, whatever is left of the region. -/
theorem Wn.callI {o : Oper} {i : Nat} {rest : List Nat} (hb : b.kind ≠ .early) (ho : ops[i]? = some o) (hw : Region.wanted o (yielded ops a.tmps) = true) {f : FuncId} {as : List Operand} {ats : Array TypeId}
    (hop : o.op = .call { callee := .value (.func f), args := as.toArray, argTypes := ats }) (hbd : bodied P f = true)
    (h : Wn C (Frame.enter P f (as.map a.eval).toArray .normal) (b.at a (.inRegion ops (i :: rest) :: k) :: cs) u) : Wn C (b.at a (.inRegion ops (i :: rest) :: k)) cs u :=
  Wn.call hb ho hw (fun w => by rw [execOp_call_func hop, List.map_toArray]; exact runT_callFunc hbd _ _) h
end
end Go.Proofs.Ytoabkcalphpkhaa

/- Merged: TameEq, TameOp. -/
import Derived.Test.YtoabkcalphpkhaaN04
/- The model's comparisons, calls and operations are tame. No program in sight. -/
namespace Go.Proofs.Ytoabkcalphpkhaa
open Go Go.Conc
set_option linter.unusedVariables false
set_option linter.unusedSimpArgs false
set_option linter.unusedSectionVars false
section
variable {P : Program} {fz : Bool}
theorem tame_frozen (hz : fz = false) (a : Addr) : Tame P fz Tame.Any (Go.frozen a) := .frozen hz fun _ => .pure trivial
theorem tame_stringish (hz : fz = false) (a : Addr) : Tame P fz Tame.Any (stringish a) := by
  unfold stringish
  repeat' first
    | (with_reducible exact tame_frozen hz _)
    | (with_reducible exact tame_pure trivial)
    | (with_reducible exact tame_stuck _)
    | (with_reducible exact tame_unsupported _)
    | (with_reducible exact tame_goPanic _)
    | (with_reducible exact Tame.halt trivial)
    | (with_reducible exact tame_load _ _)
    | (with_reducible exact tame_store _ _ _)
    | (with_reducible exact tame_newObj _)
    | (with_reducible exact tame_shape _)
    | (with_reducible exact tame_getObj _)
    | (with_reducible exact tame_choose _)
    | (with_reducible exact tame_program)
    | (with_reducible exact tame_askRoom _)
    | (with_reducible exact tame_viewAt _)
    | (with_reducible exact tame_numberAt _)
    | (with_reducible exact tame_asNumber _ _)
    | (with_reducible exact tame_behindNumber _)
    | (with_reducible exact tame_noView _)
    | (with_reducible exact tame_typeInfo _)
    | (with_reducible exact tame_underlying _)
    | (with_reducible exact tame_zeroValue _)
    | (with_reducible exact tame_sizeOf _)
    | (with_reducible exact tame_isAgg _)
    | (with_reducible exact tame_loadCells _ _)
    | (with_reducible exact tame_storeCells _ _ _)
    | (with_reducible exact tame_loadVar _ _)
    | (with_reducible exact tame_storeVar _ _ _)
    | (with_reducible exact tame_newRow _ _)
    | (with_reducible exact tame_newVar _ _)
    | (with_reducible exact tame_elemOf _)
    | (with_reducible exact tame_part _ _ _)
    | (with_reducible exact tame_runtimePanic _)
    | (with_reducible exact tame_boundsPanic _ _ _ _)
    | (with_reducible exact tame_asIntOf _)
    | (with_reducible exact tame_asInt _)
    | (with_reducible exact tame_asBool _)
    | (with_reducible exact tame_asAgg _)
    | (with_reducible exact tame_asAddr _)
    | (with_reducible exact tame_firstCells _ _ _)
    | (with_reducible exact tame_lenOf _)
    | (with_reducible exact tame_mapM _ (fun _ => tame_bind (tame_sizeOf _) fun _ => tame_pure trivial) _)
    | (with_reducible exact tame_sureAddr _)
    | (with_reducible exact tame_byteOf _)
    | (with_reducible exact tame_partAt _ _ _)
    | (with_reducible exact tame_fieldPlace _ _)
    | (with_reducible refine tame_map ?_)
    | (with_reducible refine tame_bind ?_ fun _ => ?_)
    | (with_reducible refine Tame.ite (fun _ => ?_) (fun _ => ?_))
    | split
    | (dsimp only)
theorem tame_mayBeOne (hz : fz = false) (a b : Addr) : Tame P fz Tame.Any (mayBeOne a b) := by
  unfold mayBeOne
  repeat' first
    | (with_reducible exact tame_stringish hz _)
    | (with_reducible exact tame_pure trivial)
    | (with_reducible exact tame_stuck _)
    | (with_reducible exact tame_unsupported _)
    | (with_reducible exact tame_goPanic _)
    | (with_reducible exact Tame.halt trivial)
    | (with_reducible exact tame_load _ _)
    | (with_reducible exact tame_store _ _ _)
    | (with_reducible exact tame_newObj _)
    | (with_reducible exact tame_shape _)
    | (with_reducible exact tame_getObj _)
    | (with_reducible exact tame_choose _)
    | (with_reducible exact tame_program)
    | (with_reducible exact tame_askRoom _)
    | (with_reducible exact tame_viewAt _)
    | (with_reducible exact tame_numberAt _)
    | (with_reducible exact tame_asNumber _ _)
    | (with_reducible exact tame_behindNumber _)
    | (with_reducible exact tame_noView _)
    | (with_reducible exact tame_typeInfo _)
    | (with_reducible exact tame_underlying _)
    | (with_reducible exact tame_zeroValue _)
    | (with_reducible exact tame_sizeOf _)
    | (with_reducible exact tame_isAgg _)
    | (with_reducible exact tame_loadCells _ _)
    | (with_reducible exact tame_storeCells _ _ _)
    | (with_reducible exact tame_loadVar _ _)
    | (with_reducible exact tame_storeVar _ _ _)
    | (with_reducible exact tame_newRow _ _)
    | (with_reducible exact tame_newVar _ _)
    | (with_reducible exact tame_elemOf _)
    | (with_reducible exact tame_part _ _ _)
    | (with_reducible exact tame_runtimePanic _)
    | (with_reducible exact tame_boundsPanic _ _ _ _)
    | (with_reducible exact tame_asIntOf _)
    | (with_reducible exact tame_asInt _)
    | (with_reducible exact tame_asBool _)
    | (with_reducible exact tame_asAgg _)
    | (with_reducible exact tame_asAddr _)
    | (with_reducible exact tame_firstCells _ _ _)
    | (with_reducible exact tame_lenOf _)
    | (with_reducible exact tame_mapM _ (fun _ => tame_bind (tame_sizeOf _) fun _ => tame_pure trivial) _)
    | (with_reducible exact tame_sureAddr _)
    | (with_reducible exact tame_byteOf _)
    | (with_reducible exact tame_partAt _ _ _)
    | (with_reducible exact tame_fieldPlace _ _)
    | (with_reducible refine tame_map ?_)
    | (with_reducible refine tame_bind ?_ fun _ => ?_)
    | (with_reducible refine Tame.ite (fun _ => ?_) (fun _ => ?_))
    | split
    | (dsimp only)
theorem tame_sameAddr (hz : fz = false) (a b : Addr) : Tame P fz Tame.Any (sameAddr a b) := by
  unfold sameAddr
  repeat' first
    | (with_reducible exact tame_frozen hz _)
    | (with_reducible exact tame_mayBeOne hz _ _)
    | (with_reducible exact tame_pure trivial)
    | (with_reducible exact tame_stuck _)
    | (with_reducible exact tame_unsupported _)
    | (with_reducible exact tame_goPanic _)
    | (with_reducible exact Tame.halt trivial)
    | (with_reducible exact tame_load _ _)
    | (with_reducible exact tame_store _ _ _)
    | (with_reducible exact tame_newObj _)
    | (with_reducible exact tame_shape _)
    | (with_reducible exact tame_getObj _)
    | (with_reducible exact tame_choose _)
    | (with_reducible exact tame_program)
    | (with_reducible exact tame_askRoom _)
    | (with_reducible exact tame_viewAt _)
    | (with_reducible exact tame_numberAt _)
    | (with_reducible exact tame_asNumber _ _)
    | (with_reducible exact tame_behindNumber _)
    | (with_reducible exact tame_noView _)
    | (with_reducible exact tame_typeInfo _)
    | (with_reducible exact tame_underlying _)
    | (with_reducible exact tame_zeroValue _)
    | (with_reducible exact tame_sizeOf _)
    | (with_reducible exact tame_isAgg _)
    | (with_reducible exact tame_loadCells _ _)
    | (with_reducible exact tame_storeCells _ _ _)
    | (with_reducible exact tame_loadVar _ _)
    | (with_reducible exact tame_storeVar _ _ _)
    | (with_reducible exact tame_newRow _ _)
    | (with_reducible exact tame_newVar _ _)
    | (with_reducible exact tame_elemOf _)
    | (with_reducible exact tame_part _ _ _)
    | (with_reducible exact tame_runtimePanic _)
    | (with_reducible exact tame_boundsPanic _ _ _ _)
    | (with_reducible exact tame_asIntOf _)
    | (with_reducible exact tame_asInt _)
    | (with_reducible exact tame_asBool _)
    | (with_reducible exact tame_asAgg _)
    | (with_reducible exact tame_asAddr _)
    | (with_reducible exact tame_firstCells _ _ _)
    | (with_reducible exact tame_lenOf _)
    | (with_reducible exact tame_mapM _ (fun _ => tame_bind (tame_sizeOf _) fun _ => tame_pure trivial) _)
    | (with_reducible exact tame_sureAddr _)
    | (with_reducible exact tame_byteOf _)
    | (with_reducible exact tame_partAt _ _ _)
    | (with_reducible exact tame_fieldPlace _ _)
    | (with_reducible refine tame_map ?_)
    | (with_reducible refine tame_bind ?_ fun _ => ?_)
    | (with_reducible refine Tame.ite (fun _ => ?_) (fun _ => ?_))
    | split
    | (dsimp only)
theorem tame_samePointer (hz : fz = false) (a b : Option Addr) : Tame P fz Tame.Any (samePointer a b) := by
  unfold samePointer
  repeat' first
    | (with_reducible exact tame_sameAddr hz _ _)
    | (with_reducible exact tame_pure trivial)
    | (with_reducible exact tame_stuck _)
    | (with_reducible exact tame_unsupported _)
    | (with_reducible exact tame_goPanic _)
    | (with_reducible exact Tame.halt trivial)
    | (with_reducible exact tame_load _ _)
    | (with_reducible exact tame_store _ _ _)
    | (with_reducible exact tame_newObj _)
    | (with_reducible exact tame_shape _)
    | (with_reducible exact tame_getObj _)
    | (with_reducible exact tame_choose _)
    | (with_reducible exact tame_program)
    | (with_reducible exact tame_askRoom _)
    | (with_reducible exact tame_viewAt _)
    | (with_reducible exact tame_numberAt _)
    | (with_reducible exact tame_asNumber _ _)
    | (with_reducible exact tame_behindNumber _)
    | (with_reducible exact tame_noView _)
    | (with_reducible exact tame_typeInfo _)
    | (with_reducible exact tame_underlying _)
    | (with_reducible exact tame_zeroValue _)
    | (with_reducible exact tame_sizeOf _)
    | (with_reducible exact tame_isAgg _)
    | (with_reducible exact tame_loadCells _ _)
    | (with_reducible exact tame_storeCells _ _ _)
    | (with_reducible exact tame_loadVar _ _)
    | (with_reducible exact tame_storeVar _ _ _)
    | (with_reducible exact tame_newRow _ _)
    | (with_reducible exact tame_newVar _ _)
    | (with_reducible exact tame_elemOf _)
    | (with_reducible exact tame_part _ _ _)
    | (with_reducible exact tame_runtimePanic _)
    | (with_reducible exact tame_boundsPanic _ _ _ _)
    | (with_reducible exact tame_asIntOf _)
    | (with_reducible exact tame_asInt _)
    | (with_reducible exact tame_asBool _)
    | (with_reducible exact tame_asAgg _)
    | (with_reducible exact tame_asAddr _)
    | (with_reducible exact tame_firstCells _ _ _)
    | (with_reducible exact tame_lenOf _)
    | (with_reducible exact tame_mapM _ (fun _ => tame_bind (tame_sizeOf _) fun _ => tame_pure trivial) _)
    | (with_reducible exact tame_sureAddr _)
    | (with_reducible exact tame_byteOf _)
    | (with_reducible exact tame_partAt _ _ _)
    | (with_reducible exact tame_fieldPlace _ _)
    | (with_reducible refine tame_map ?_)
    | (with_reducible refine tame_bind ?_ fun _ => ?_)
    | (with_reducible refine Tame.ite (fun _ => ?_) (fun _ => ?_))
    | split
    | (dsimp only)
theorem tame_forInLoop {α β : Type} (f : α → β → Sem (ForInStep β)) (h : ∀ a b, Tame P fz Tame.Any (f a b)) : ∀ (l : List α) (b : β), Tame P fz Tame.Any (forIn l b f)
  | [], b => by rw [List.forIn_nil]; exact tame_pure trivial
  | a :: l, b => by
    rw [List.forIn_cons]
    refine tame_bind (h a b) fun r => ?_
    cases r
    · exact tame_pure trivial
    · exact tame_forInLoop f h l _
theorem tame_forInArray {α β : Type} (f : α → β → Sem (ForInStep β)) (h : ∀ a b, Tame P fz Tame.Any (f a b)) (xs : Array α) (b : β) : Tame P fz Tame.Any (forIn xs b f) := by
  rw [← Array.forIn_toList]
  exact tame_forInLoop f h _ _
theorem tame_forInRange {β : Type} (f : Nat → β → Sem (ForInStep β)) (h : ∀ a b, Tame P fz Tame.Any (f a b)) (r : Std.Legacy.Range) (b : β) : Tame P fz Tame.Any (forIn r b f) := by
  rw [Std.Legacy.Range.forIn_eq_forIn_range']
  exact tame_forInLoop f h _ _
theorem tame_typeStr (t : TypeId) : Tame P fz Tame.Any (typeStr t) := by
  unfold typeStr
  repeat' first
    | (with_reducible exact tame_pure trivial)
    | (with_reducible exact tame_stuck _)
    | (with_reducible exact tame_unsupported _)
    | (with_reducible exact tame_goPanic _)
    | (with_reducible exact Tame.halt trivial)
    | (with_reducible exact tame_load _ _)
    | (with_reducible exact tame_store _ _ _)
    | (with_reducible exact tame_newObj _)
    | (with_reducible exact tame_shape _)
    | (with_reducible exact tame_getObj _)
    | (with_reducible exact tame_choose _)
    | (with_reducible exact tame_program)
    | (with_reducible exact tame_askRoom _)
    | (with_reducible exact tame_viewAt _)
    | (with_reducible exact tame_numberAt _)
    | (with_reducible exact tame_asNumber _ _)
    | (with_reducible exact tame_behindNumber _)
    | (with_reducible exact tame_noView _)
    | (with_reducible exact tame_typeInfo _)
    | (with_reducible exact tame_underlying _)
    | (with_reducible exact tame_zeroValue _)
    | (with_reducible exact tame_sizeOf _)
    | (with_reducible exact tame_isAgg _)
    | (with_reducible exact tame_loadCells _ _)
    | (with_reducible exact tame_storeCells _ _ _)
    | (with_reducible exact tame_loadVar _ _)
    | (with_reducible exact tame_storeVar _ _ _)
    | (with_reducible exact tame_newRow _ _)
    | (with_reducible exact tame_newVar _ _)
    | (with_reducible exact tame_elemOf _)
    | (with_reducible exact tame_part _ _ _)
    | (with_reducible exact tame_runtimePanic _)
    | (with_reducible exact tame_boundsPanic _ _ _ _)
    | (with_reducible exact tame_asIntOf _)
    | (with_reducible exact tame_asInt _)
    | (with_reducible exact tame_asBool _)
    | (with_reducible exact tame_asAgg _)
    | (with_reducible exact tame_asAddr _)
    | (with_reducible exact tame_firstCells _ _ _)
    | (with_reducible exact tame_lenOf _)
    | (with_reducible exact tame_mapM _ (fun _ => tame_bind (tame_sizeOf _) fun _ => tame_pure trivial) _)
    | (with_reducible exact tame_sureAddr _)
    | (with_reducible exact tame_byteOf _)
    | (with_reducible exact tame_partAt _ _ _)
    | (with_reducible exact tame_fieldPlace _ _)
    | (with_reducible refine tame_map ?_)
    | (with_reducible refine tame_bind ?_ fun _ => ?_)
    | (with_reducible refine Tame.ite (fun _ => ?_) (fun _ => ?_))
    | split
    | (dsimp only)
theorem tame_equalIn (hz : fz = false) : ∀ (d : Nat) (t : TypeId) (x y : Value), Tame P fz Tame.Any (Op.equalIn d t x y)
  | 0, t, x, y => tame_unsupported _
  | d + 1, t, x, y => by
    unfold Op.equalIn
    repeat' first
      | (with_reducible exact tame_equalIn hz d _ _ _)
      | (with_reducible exact tame_sameAddr hz _ _)
      | (with_reducible exact tame_samePointer hz _ _)
      | (with_reducible exact tame_typeStr _)
      | (with_reducible refine tame_forInArray _ (fun _ _ => ?_) _ _)
      | (with_reducible refine tame_forInRange _ (fun _ _ => ?_) _ _)
      | (with_reducible exact tame_pure trivial)
      | (with_reducible exact tame_stuck _)
      | (with_reducible exact tame_unsupported _)
      | (with_reducible exact tame_goPanic _)
      | (with_reducible exact Tame.halt trivial)
      | (with_reducible exact tame_load _ _)
      | (with_reducible exact tame_store _ _ _)
      | (with_reducible exact tame_newObj _)
      | (with_reducible exact tame_shape _)
      | (with_reducible exact tame_getObj _)
      | (with_reducible exact tame_choose _)
      | (with_reducible exact tame_program)
      | (with_reducible exact tame_askRoom _)
      | (with_reducible exact tame_viewAt _)
      | (with_reducible exact tame_numberAt _)
      | (with_reducible exact tame_asNumber _ _)
      | (with_reducible exact tame_behindNumber _)
      | (with_reducible exact tame_noView _)
      | (with_reducible exact tame_typeInfo _)
      | (with_reducible exact tame_underlying _)
      | (with_reducible exact tame_zeroValue _)
      | (with_reducible exact tame_sizeOf _)
      | (with_reducible exact tame_isAgg _)
      | (with_reducible exact tame_loadCells _ _)
      | (with_reducible exact tame_storeCells _ _ _)
      | (with_reducible exact tame_loadVar _ _)
      | (with_reducible exact tame_storeVar _ _ _)
      | (with_reducible exact tame_newRow _ _)
      | (with_reducible exact tame_newVar _ _)
      | (with_reducible exact tame_elemOf _)
      | (with_reducible exact tame_part _ _ _)
      | (with_reducible exact tame_runtimePanic _)
      | (with_reducible exact tame_boundsPanic _ _ _ _)
      | (with_reducible exact tame_asIntOf _)
      | (with_reducible exact tame_asInt _)
      | (with_reducible exact tame_asBool _)
      | (with_reducible exact tame_asAgg _)
      | (with_reducible exact tame_asAddr _)
      | (with_reducible exact tame_firstCells _ _ _)
      | (with_reducible exact tame_lenOf _)
      | (with_reducible exact tame_mapM _ (fun _ => tame_bind (tame_sizeOf _) fun _ => tame_pure trivial) _)
      | (with_reducible exact tame_sureAddr _)
      | (with_reducible exact tame_byteOf _)
      | (with_reducible exact tame_partAt _ _ _)
      | (with_reducible exact tame_fieldPlace _ _)
      | (with_reducible refine tame_map ?_)
      | (with_reducible refine tame_bind ?_ fun _ => ?_)
      | (with_reducible refine Tame.ite (fun _ => ?_) (fun _ => ?_))
      | split
      | (dsimp only)

theorem tame_equal (hz : fz = false) (t : TypeId) (x y : Value) : Tame P fz Tame.Any (Op.equal t x y) := tame_equalIn hz _ t x y
/-- At a type of numbers, bools or strings nothing asks whether a cell is frozen. -/
def plainEq (P : Program) (t : TypeId) : Bool := match P.underlying t with | some (.int _) | some .bool | some .string => true | _ => false
theorem underlying_run {α : Type} {L : α → Prop} {t : TypeId} {k : TypeDesc → Sem α} (h : ∀ d, P.underlying t = some d → Tame P fz L (k d)) : Tame P fz L (underlying t >>= k) := by
  unfold underlying
  show Tame P fz L ((program >>= fun p => _).bind k)
  refine Tame.program ?_
  show Tame P fz L (Sem.bind (match P.underlying t with | some d => pure d | none => stuck "no such type") k)
  cases hd : P.underlying t with
  | none => exact .halt trivial
  | some d => exact h d hd
theorem tame_equal_plain {t : TypeId} (ht : plainEq P t = true) (x y : Value) : Tame P fz Tame.Any (Op.equal t x y) := by
  unfold Op.equal Op.maxDepth
  unfold Op.equalIn
  refine underlying_run fun d hd => ?_
  unfold plainEq at ht
  rw [hd] at ht
  cases d <;> simp at ht
  all_goals repeat' first
    | contradiction
    | (with_reducible exact tame_pure trivial)
    | (with_reducible exact tame_stuck _)
    | (with_reducible exact tame_unsupported _)
    | (with_reducible exact tame_goPanic _)
    | (with_reducible exact Tame.halt trivial)
    | (with_reducible exact tame_load _ _)
    | (with_reducible exact tame_store _ _ _)
    | (with_reducible exact tame_newObj _)
    | (with_reducible exact tame_shape _)
    | (with_reducible exact tame_getObj _)
    | (with_reducible exact tame_choose _)
    | (with_reducible exact tame_program)
    | (with_reducible exact tame_askRoom _)
    | (with_reducible exact tame_viewAt _)
    | (with_reducible exact tame_numberAt _)
    | (with_reducible exact tame_asNumber _ _)
    | (with_reducible exact tame_behindNumber _)
    | (with_reducible exact tame_noView _)
    | (with_reducible exact tame_typeInfo _)
    | (with_reducible exact tame_underlying _)
    | (with_reducible exact tame_zeroValue _)
    | (with_reducible exact tame_sizeOf _)
    | (with_reducible exact tame_isAgg _)
    | (with_reducible exact tame_loadCells _ _)
    | (with_reducible exact tame_storeCells _ _ _)
    | (with_reducible exact tame_loadVar _ _)
    | (with_reducible exact tame_storeVar _ _ _)
    | (with_reducible exact tame_newRow _ _)
    | (with_reducible exact tame_newVar _ _)
    | (with_reducible exact tame_elemOf _)
    | (with_reducible exact tame_part _ _ _)
    | (with_reducible exact tame_runtimePanic _)
    | (with_reducible exact tame_boundsPanic _ _ _ _)
    | (with_reducible exact tame_asIntOf _)
    | (with_reducible exact tame_asInt _)
    | (with_reducible exact tame_asBool _)
    | (with_reducible exact tame_asAgg _)
    | (with_reducible exact tame_asAddr _)
    | (with_reducible exact tame_firstCells _ _ _)
    | (with_reducible exact tame_lenOf _)
    | (with_reducible exact tame_mapM _ (fun _ => tame_bind (tame_sizeOf _) fun _ => tame_pure trivial) _)
    | (with_reducible exact tame_sureAddr _)
    | (with_reducible exact tame_byteOf _)
    | (with_reducible exact tame_partAt _ _ _)
    | (with_reducible exact tame_fieldPlace _ _)
    | (with_reducible refine tame_map ?_)
    | (with_reducible refine tame_bind ?_ fun _ => ?_)
    | (with_reducible refine Tame.ite (fun _ => ?_) (fun _ => ?_))
    | split
    | (dsimp only)
theorem tame_equal_nil {t : TypeId} (x : Value) : Tame P fz Tame.Any (Op.equal t x (.pointer none)) := by
  unfold Op.equal Op.maxDepth
  unfold Op.equalIn
  repeat' first
    | (exfalso; simp at *; done)
    | (with_reducible exact tame_pure trivial)
    | (with_reducible exact tame_stuck _)
    | (with_reducible exact tame_unsupported _)
    | (with_reducible exact tame_goPanic _)
    | (with_reducible exact Tame.halt trivial)
    | (with_reducible exact tame_load _ _)
    | (with_reducible exact tame_store _ _ _)
    | (with_reducible exact tame_newObj _)
    | (with_reducible exact tame_shape _)
    | (with_reducible exact tame_getObj _)
    | (with_reducible exact tame_choose _)
    | (with_reducible exact tame_program)
    | (with_reducible exact tame_askRoom _)
    | (with_reducible exact tame_viewAt _)
    | (with_reducible exact tame_numberAt _)
    | (with_reducible exact tame_asNumber _ _)
    | (with_reducible exact tame_behindNumber _)
    | (with_reducible exact tame_noView _)
    | (with_reducible exact tame_typeInfo _)
    | (with_reducible exact tame_underlying _)
    | (with_reducible exact tame_zeroValue _)
    | (with_reducible exact tame_sizeOf _)
    | (with_reducible exact tame_isAgg _)
    | (with_reducible exact tame_loadCells _ _)
    | (with_reducible exact tame_storeCells _ _ _)
    | (with_reducible exact tame_loadVar _ _)
    | (with_reducible exact tame_storeVar _ _ _)
    | (with_reducible exact tame_newRow _ _)
    | (with_reducible exact tame_newVar _ _)
    | (with_reducible exact tame_elemOf _)
    | (with_reducible exact tame_part _ _ _)
    | (with_reducible exact tame_runtimePanic _)
    | (with_reducible exact tame_boundsPanic _ _ _ _)
    | (with_reducible exact tame_asIntOf _)
    | (with_reducible exact tame_asInt _)
    | (with_reducible exact tame_asBool _)
    | (with_reducible exact tame_asAgg _)
    | (with_reducible exact tame_asAddr _)
    | (with_reducible exact tame_firstCells _ _ _)
    | (with_reducible exact tame_lenOf _)
    | (with_reducible exact tame_mapM _ (fun _ => tame_bind (tame_sizeOf _) fun _ => tame_pure trivial) _)
    | (with_reducible exact tame_sureAddr _)
    | (with_reducible exact tame_byteOf _)
    | (with_reducible exact tame_partAt _ _ _)
    | (with_reducible exact tame_fieldPlace _ _)
    | (with_reducible refine tame_map ?_)
    | (with_reducible refine tame_bind ?_ fun _ => ?_)
    | (with_reducible refine Tame.ite (fun _ => ?_) (fun _ => ?_))
    | split
    | (dsimp only)
  rename_i heq
  simp only [Value.pointer.injEq] at heq
  subst heq
  unfold samePointer
  split
  · contradiction
  · exact tame_pure trivial
theorem tame_eqGuardIn : ∀ (d : Nat) (t : TypeId) (x y : Value), Tame P fz Tame.Any (Op.eqGuardIn d t x y)
  | 0, t, x, y => tame_unsupported _
  | d + 1, t, x, y => by
    unfold Op.eqGuardIn
    repeat' first
      | (with_reducible exact tame_eqGuardIn d _ _ _)
      | (with_reducible refine tame_forInArray _ (fun _ _ => ?_) _ _)
      | (with_reducible refine tame_forInRange _ (fun _ _ => ?_) _ _)
      | (with_reducible exact tame_pure trivial)
      | (with_reducible exact tame_stuck _)
      | (with_reducible exact tame_unsupported _)
      | (with_reducible exact tame_goPanic _)
      | (with_reducible exact Tame.halt trivial)
      | (with_reducible exact tame_load _ _)
      | (with_reducible exact tame_store _ _ _)
      | (with_reducible exact tame_newObj _)
      | (with_reducible exact tame_shape _)
      | (with_reducible exact tame_getObj _)
      | (with_reducible exact tame_choose _)
      | (with_reducible exact tame_program)
      | (with_reducible exact tame_askRoom _)
      | (with_reducible exact tame_viewAt _)
      | (with_reducible exact tame_numberAt _)
      | (with_reducible exact tame_asNumber _ _)
      | (with_reducible exact tame_behindNumber _)
      | (with_reducible exact tame_noView _)
      | (with_reducible exact tame_typeInfo _)
      | (with_reducible exact tame_underlying _)
      | (with_reducible exact tame_zeroValue _)
      | (with_reducible exact tame_sizeOf _)
      | (with_reducible exact tame_isAgg _)
      | (with_reducible exact tame_loadCells _ _)
      | (with_reducible exact tame_storeCells _ _ _)
      | (with_reducible exact tame_loadVar _ _)
      | (with_reducible exact tame_storeVar _ _ _)
      | (with_reducible exact tame_newRow _ _)
      | (with_reducible exact tame_newVar _ _)
      | (with_reducible exact tame_elemOf _)
      | (with_reducible exact tame_part _ _ _)
      | (with_reducible exact tame_runtimePanic _)
      | (with_reducible exact tame_boundsPanic _ _ _ _)
      | (with_reducible exact tame_asIntOf _)
      | (with_reducible exact tame_asInt _)
      | (with_reducible exact tame_asBool _)
      | (with_reducible exact tame_asAgg _)
      | (with_reducible exact tame_asAddr _)
      | (with_reducible exact tame_firstCells _ _ _)
      | (with_reducible exact tame_lenOf _)
      | (with_reducible exact tame_mapM _ (fun _ => tame_bind (tame_sizeOf _) fun _ => tame_pure trivial) _)
      | (with_reducible exact tame_sureAddr _)
      | (with_reducible exact tame_byteOf _)
      | (with_reducible exact tame_partAt _ _ _)
      | (with_reducible exact tame_fieldPlace _ _)
      | (with_reducible refine tame_map ?_)
      | (with_reducible refine tame_bind ?_ fun _ => ?_)
      | (with_reducible refine Tame.ite (fun _ => ?_) (fun _ => ?_))
      | split
      | (dsimp only)

theorem tame_eqGuard (op : BinOp) (t : TypeId) (x y : Operand) (a b : Value) : Tame P fz Tame.Any (eqGuard op t x y a b) := by
  unfold eqGuard
  repeat' first
    | (with_reducible exact tame_eqGuardIn _ _ _ _)
    | (with_reducible exact tame_pure trivial)
    | (with_reducible exact tame_stuck _)
    | (with_reducible exact tame_unsupported _)
    | (with_reducible exact tame_goPanic _)
    | (with_reducible exact Tame.halt trivial)
    | (with_reducible exact tame_load _ _)
    | (with_reducible exact tame_store _ _ _)
    | (with_reducible exact tame_newObj _)
    | (with_reducible exact tame_shape _)
    | (with_reducible exact tame_getObj _)
    | (with_reducible exact tame_choose _)
    | (with_reducible exact tame_program)
    | (with_reducible exact tame_askRoom _)
    | (with_reducible exact tame_viewAt _)
    | (with_reducible exact tame_numberAt _)
    | (with_reducible exact tame_asNumber _ _)
    | (with_reducible exact tame_behindNumber _)
    | (with_reducible exact tame_noView _)
    | (with_reducible exact tame_typeInfo _)
    | (with_reducible exact tame_underlying _)
    | (with_reducible exact tame_zeroValue _)
    | (with_reducible exact tame_sizeOf _)
    | (with_reducible exact tame_isAgg _)
    | (with_reducible exact tame_loadCells _ _)
    | (with_reducible exact tame_storeCells _ _ _)
    | (with_reducible exact tame_loadVar _ _)
    | (with_reducible exact tame_storeVar _ _ _)
    | (with_reducible exact tame_newRow _ _)
    | (with_reducible exact tame_newVar _ _)
    | (with_reducible exact tame_elemOf _)
    | (with_reducible exact tame_part _ _ _)
    | (with_reducible exact tame_runtimePanic _)
    | (with_reducible exact tame_boundsPanic _ _ _ _)
    | (with_reducible exact tame_asIntOf _)
    | (with_reducible exact tame_asInt _)
    | (with_reducible exact tame_asBool _)
    | (with_reducible exact tame_asAgg _)
    | (with_reducible exact tame_asAddr _)
    | (with_reducible exact tame_firstCells _ _ _)
    | (with_reducible exact tame_lenOf _)
    | (with_reducible exact tame_mapM _ (fun _ => tame_bind (tame_sizeOf _) fun _ => tame_pure trivial) _)
    | (with_reducible exact tame_sureAddr _)
    | (with_reducible exact tame_byteOf _)
    | (with_reducible exact tame_partAt _ _ _)
    | (with_reducible exact tame_fieldPlace _ _)
    | (with_reducible refine tame_map ?_)
    | (with_reducible refine tame_bind ?_ fun _ => ?_)
    | (with_reducible refine Tame.ite (fun _ => ?_) (fun _ => ?_))
    | split
    | (dsimp only)


theorem tame_followBlind : ∀ (l : List FieldStep) (t : TypeId) (x : Option Value), Tame P fz Tame.Any (followBlind l t x)
  | [], t, x => tame_pure trivial
  | s :: l, t, x => by
    unfold followBlind
    repeat' first
      | (with_reducible exact tame_followBlind l _ _)
      | (with_reducible exact tame_pure trivial)
      | (with_reducible exact tame_stuck _)
      | (with_reducible exact tame_unsupported _)
      | (with_reducible exact tame_goPanic _)
      | (with_reducible exact Tame.halt trivial)
      | (with_reducible exact tame_load _ _)
      | (with_reducible exact tame_store _ _ _)
      | (with_reducible exact tame_newObj _)
      | (with_reducible exact tame_shape _)
      | (with_reducible exact tame_getObj _)
      | (with_reducible exact tame_choose _)
      | (with_reducible exact tame_program)
      | (with_reducible exact tame_askRoom _)
      | (with_reducible exact tame_viewAt _)
      | (with_reducible exact tame_numberAt _)
      | (with_reducible exact tame_asNumber _ _)
      | (with_reducible exact tame_behindNumber _)
      | (with_reducible exact tame_noView _)
      | (with_reducible exact tame_typeInfo _)
      | (with_reducible exact tame_underlying _)
      | (with_reducible exact tame_zeroValue _)
      | (with_reducible exact tame_sizeOf _)
      | (with_reducible exact tame_isAgg _)
      | (with_reducible exact tame_loadCells _ _)
      | (with_reducible exact tame_storeCells _ _ _)
      | (with_reducible exact tame_loadVar _ _)
      | (with_reducible exact tame_storeVar _ _ _)
      | (with_reducible exact tame_newRow _ _)
      | (with_reducible exact tame_newVar _ _)
      | (with_reducible exact tame_elemOf _)
      | (with_reducible exact tame_part _ _ _)
      | (with_reducible exact tame_runtimePanic _)
      | (with_reducible exact tame_boundsPanic _ _ _ _)
      | (with_reducible exact tame_asIntOf _)
      | (with_reducible exact tame_asInt _)
      | (with_reducible exact tame_asBool _)
      | (with_reducible exact tame_asAgg _)
      | (with_reducible exact tame_asAddr _)
      | (with_reducible exact tame_firstCells _ _ _)
      | (with_reducible exact tame_lenOf _)
      | (with_reducible exact tame_mapM _ (fun _ => tame_bind (tame_sizeOf _) fun _ => tame_pure trivial) _)
      | (with_reducible exact tame_sureAddr _)
      | (with_reducible exact tame_byteOf _)
      | (with_reducible exact tame_partAt _ _ _)
      | (with_reducible exact tame_fieldPlace _ _)
      | (with_reducible exact tame_intArith _ _ _ _)
      | (with_reducible exact tame_intBits _ _ _ _)
      | (with_reducible exact tame_intCmp _ _ _)
      | (with_reducible exact tame_intDiv _ _ _ _)
      | (with_reducible exact tame_shift _ _ _ _ _)
      | (with_reducible exact tame_stringOp _ _ _)
      | (with_reducible exact tame_addrSub _ _ _)
      | (with_reducible exact tame_addrCmp _ _ _)
      | (with_reducible exact tame_addrMod _ _ _)
      | (with_reducible exact tame_movedNumber _ _ _)
      | (with_reducible exact tame_movedPointer _ _ _)
      | (with_reducible refine tame_map ?_)
      | (with_reducible refine tame_bind ?_ fun _ => ?_)
      | (with_reducible refine Tame.ite (fun _ => ?_) (fun _ => ?_))
      | split
      | (dsimp only)

theorem tame_nilAhead : ∀ (n : Nat) (t : TypeId) (x : Value) (s : String), Tame P fz Tame.Any (nilAhead n t x s)
  | 0, t, x, s => tame_pure trivial
  | n + 1, t, x, s => by
    unfold nilAhead
    repeat' first
      | (with_reducible exact tame_nilAhead n _ _ _)
      | (with_reducible exact tame_followBlind _ _ _)
      | (with_reducible exact tame_pure trivial)
      | (with_reducible exact tame_stuck _)
      | (with_reducible exact tame_unsupported _)
      | (with_reducible exact tame_goPanic _)
      | (with_reducible exact Tame.halt trivial)
      | (with_reducible exact tame_load _ _)
      | (with_reducible exact tame_store _ _ _)
      | (with_reducible exact tame_newObj _)
      | (with_reducible exact tame_shape _)
      | (with_reducible exact tame_getObj _)
      | (with_reducible exact tame_choose _)
      | (with_reducible exact tame_program)
      | (with_reducible exact tame_askRoom _)
      | (with_reducible exact tame_viewAt _)
      | (with_reducible exact tame_numberAt _)
      | (with_reducible exact tame_asNumber _ _)
      | (with_reducible exact tame_behindNumber _)
      | (with_reducible exact tame_noView _)
      | (with_reducible exact tame_typeInfo _)
      | (with_reducible exact tame_underlying _)
      | (with_reducible exact tame_zeroValue _)
      | (with_reducible exact tame_sizeOf _)
      | (with_reducible exact tame_isAgg _)
      | (with_reducible exact tame_loadCells _ _)
      | (with_reducible exact tame_storeCells _ _ _)
      | (with_reducible exact tame_loadVar _ _)
      | (with_reducible exact tame_storeVar _ _ _)
      | (with_reducible exact tame_newRow _ _)
      | (with_reducible exact tame_newVar _ _)
      | (with_reducible exact tame_elemOf _)
      | (with_reducible exact tame_part _ _ _)
      | (with_reducible exact tame_runtimePanic _)
      | (with_reducible exact tame_boundsPanic _ _ _ _)
      | (with_reducible exact tame_asIntOf _)
      | (with_reducible exact tame_asInt _)
      | (with_reducible exact tame_asBool _)
      | (with_reducible exact tame_asAgg _)
      | (with_reducible exact tame_asAddr _)
      | (with_reducible exact tame_firstCells _ _ _)
      | (with_reducible exact tame_lenOf _)
      | (with_reducible exact tame_mapM _ (fun _ => tame_bind (tame_sizeOf _) fun _ => tame_pure trivial) _)
      | (with_reducible exact tame_sureAddr _)
      | (with_reducible exact tame_byteOf _)
      | (with_reducible exact tame_partAt _ _ _)
      | (with_reducible exact tame_fieldPlace _ _)
      | (with_reducible exact tame_intArith _ _ _ _)
      | (with_reducible exact tame_intBits _ _ _ _)
      | (with_reducible exact tame_intCmp _ _ _)
      | (with_reducible exact tame_intDiv _ _ _ _)
      | (with_reducible exact tame_shift _ _ _ _ _)
      | (with_reducible exact tame_stringOp _ _ _)
      | (with_reducible exact tame_addrSub _ _ _)
      | (with_reducible exact tame_addrCmp _ _ _)
      | (with_reducible exact tame_addrMod _ _ _)
      | (with_reducible exact tame_movedNumber _ _ _)
      | (with_reducible exact tame_movedPointer _ _ _)
      | (with_reducible refine tame_map ?_)
      | (with_reducible refine tame_bind ?_ fun _ => ?_)
      | (with_reducible refine Tame.ite (fun _ => ?_) (fun _ => ?_))
      | split
      | (dsimp only)

theorem tame_floatArith (op : BinOp) (k : FloatKind) (x y : Nat) : Tame P fz Tame.Any (Op.floatArith op k x y) := by
  unfold Op.floatArith
  repeat' first
    | (with_reducible exact tame_pure trivial)
    | (with_reducible exact tame_stuck _)
    | (with_reducible exact tame_unsupported _)
    | (with_reducible exact tame_goPanic _)
    | (with_reducible exact Tame.halt trivial)
    | (with_reducible exact tame_load _ _)
    | (with_reducible exact tame_store _ _ _)
    | (with_reducible exact tame_newObj _)
    | (with_reducible exact tame_shape _)
    | (with_reducible exact tame_getObj _)
    | (with_reducible exact tame_choose _)
    | (with_reducible exact tame_program)
    | (with_reducible exact tame_askRoom _)
    | (with_reducible exact tame_viewAt _)
    | (with_reducible exact tame_numberAt _)
    | (with_reducible exact tame_asNumber _ _)
    | (with_reducible exact tame_behindNumber _)
    | (with_reducible exact tame_noView _)
    | (with_reducible exact tame_typeInfo _)
    | (with_reducible exact tame_underlying _)
    | (with_reducible exact tame_zeroValue _)
    | (with_reducible exact tame_sizeOf _)
    | (with_reducible exact tame_isAgg _)
    | (with_reducible exact tame_loadCells _ _)
    | (with_reducible exact tame_storeCells _ _ _)
    | (with_reducible exact tame_loadVar _ _)
    | (with_reducible exact tame_storeVar _ _ _)
    | (with_reducible exact tame_newRow _ _)
    | (with_reducible exact tame_newVar _ _)
    | (with_reducible exact tame_elemOf _)
    | (with_reducible exact tame_part _ _ _)
    | (with_reducible exact tame_runtimePanic _)
    | (with_reducible exact tame_boundsPanic _ _ _ _)
    | (with_reducible exact tame_asIntOf _)
    | (with_reducible exact tame_asInt _)
    | (with_reducible exact tame_asBool _)
    | (with_reducible exact tame_asAgg _)
    | (with_reducible exact tame_asAddr _)
    | (with_reducible exact tame_firstCells _ _ _)
    | (with_reducible exact tame_lenOf _)
    | (with_reducible exact tame_mapM _ (fun _ => tame_bind (tame_sizeOf _) fun _ => tame_pure trivial) _)
    | (with_reducible exact tame_sureAddr _)
    | (with_reducible exact tame_byteOf _)
    | (with_reducible exact tame_partAt _ _ _)
    | (with_reducible exact tame_fieldPlace _ _)
    | (with_reducible exact tame_intArith _ _ _ _)
    | (with_reducible exact tame_intBits _ _ _ _)
    | (with_reducible exact tame_intCmp _ _ _)
    | (with_reducible exact tame_intDiv _ _ _ _)
    | (with_reducible exact tame_shift _ _ _ _ _)
    | (with_reducible exact tame_stringOp _ _ _)
    | (with_reducible exact tame_addrSub _ _ _)
    | (with_reducible exact tame_addrCmp _ _ _)
    | (with_reducible exact tame_addrMod _ _ _)
    | (with_reducible exact tame_movedNumber _ _ _)
    | (with_reducible exact tame_movedPointer _ _ _)
    | (with_reducible refine tame_map ?_)
    | (with_reducible refine tame_bind ?_ fun _ => ?_)
    | (with_reducible refine Tame.ite (fun _ => ?_) (fun _ => ?_))
    | split
    | (dsimp only)
theorem tame_floatCmp (op : BinOp) (k : FloatKind) (x y : Nat) : Tame P fz Tame.Any (Op.floatCmp op k x y) := by
  unfold Op.floatCmp
  repeat' first
    | (with_reducible exact tame_pure trivial)
    | (with_reducible exact tame_stuck _)
    | (with_reducible exact tame_unsupported _)
    | (with_reducible exact tame_goPanic _)
    | (with_reducible exact Tame.halt trivial)
    | (with_reducible exact tame_load _ _)
    | (with_reducible exact tame_store _ _ _)
    | (with_reducible exact tame_newObj _)
    | (with_reducible exact tame_shape _)
    | (with_reducible exact tame_getObj _)
    | (with_reducible exact tame_choose _)
    | (with_reducible exact tame_program)
    | (with_reducible exact tame_askRoom _)
    | (with_reducible exact tame_viewAt _)
    | (with_reducible exact tame_numberAt _)
    | (with_reducible exact tame_asNumber _ _)
    | (with_reducible exact tame_behindNumber _)
    | (with_reducible exact tame_noView _)
    | (with_reducible exact tame_typeInfo _)
    | (with_reducible exact tame_underlying _)
    | (with_reducible exact tame_zeroValue _)
    | (with_reducible exact tame_sizeOf _)
    | (with_reducible exact tame_isAgg _)
    | (with_reducible exact tame_loadCells _ _)
    | (with_reducible exact tame_storeCells _ _ _)
    | (with_reducible exact tame_loadVar _ _)
    | (with_reducible exact tame_storeVar _ _ _)
    | (with_reducible exact tame_newRow _ _)
    | (with_reducible exact tame_newVar _ _)
    | (with_reducible exact tame_elemOf _)
    | (with_reducible exact tame_part _ _ _)
    | (with_reducible exact tame_runtimePanic _)
    | (with_reducible exact tame_boundsPanic _ _ _ _)
    | (with_reducible exact tame_asIntOf _)
    | (with_reducible exact tame_asInt _)
    | (with_reducible exact tame_asBool _)
    | (with_reducible exact tame_asAgg _)
    | (with_reducible exact tame_asAddr _)
    | (with_reducible exact tame_firstCells _ _ _)
    | (with_reducible exact tame_lenOf _)
    | (with_reducible exact tame_mapM _ (fun _ => tame_bind (tame_sizeOf _) fun _ => tame_pure trivial) _)
    | (with_reducible exact tame_sureAddr _)
    | (with_reducible exact tame_byteOf _)
    | (with_reducible exact tame_partAt _ _ _)
    | (with_reducible exact tame_fieldPlace _ _)
    | (with_reducible exact tame_intArith _ _ _ _)
    | (with_reducible exact tame_intBits _ _ _ _)
    | (with_reducible exact tame_intCmp _ _ _)
    | (with_reducible exact tame_intDiv _ _ _ _)
    | (with_reducible exact tame_shift _ _ _ _ _)
    | (with_reducible exact tame_stringOp _ _ _)
    | (with_reducible exact tame_addrSub _ _ _)
    | (with_reducible exact tame_addrCmp _ _ _)
    | (with_reducible exact tame_addrMod _ _ _)
    | (with_reducible exact tame_movedNumber _ _ _)
    | (with_reducible exact tame_movedPointer _ _ _)
    | (with_reducible refine tame_map ?_)
    | (with_reducible refine tame_bind ?_ fun _ => ?_)
    | (with_reducible refine Tame.ite (fun _ => ?_) (fun _ => ?_))
    | split
    | (dsimp only)
theorem tame_cArith (op : BinOp) (k : FloatKind) (x y : Nat) : Tame P fz Tame.Any (Op.Complex.arith op k x y) := by
  unfold Op.Complex.arith
  repeat' first
    | (with_reducible exact tame_floatArith _ _ _ _)
    | (with_reducible exact tame_pure trivial)
    | (with_reducible exact tame_stuck _)
    | (with_reducible exact tame_unsupported _)
    | (with_reducible exact tame_goPanic _)
    | (with_reducible exact Tame.halt trivial)
    | (with_reducible exact tame_load _ _)
    | (with_reducible exact tame_store _ _ _)
    | (with_reducible exact tame_newObj _)
    | (with_reducible exact tame_shape _)
    | (with_reducible exact tame_getObj _)
    | (with_reducible exact tame_choose _)
    | (with_reducible exact tame_program)
    | (with_reducible exact tame_askRoom _)
    | (with_reducible exact tame_viewAt _)
    | (with_reducible exact tame_numberAt _)
    | (with_reducible exact tame_asNumber _ _)
    | (with_reducible exact tame_behindNumber _)
    | (with_reducible exact tame_noView _)
    | (with_reducible exact tame_typeInfo _)
    | (with_reducible exact tame_underlying _)
    | (with_reducible exact tame_zeroValue _)
    | (with_reducible exact tame_sizeOf _)
    | (with_reducible exact tame_isAgg _)
    | (with_reducible exact tame_loadCells _ _)
    | (with_reducible exact tame_storeCells _ _ _)
    | (with_reducible exact tame_loadVar _ _)
    | (with_reducible exact tame_storeVar _ _ _)
    | (with_reducible exact tame_newRow _ _)
    | (with_reducible exact tame_newVar _ _)
    | (with_reducible exact tame_elemOf _)
    | (with_reducible exact tame_part _ _ _)
    | (with_reducible exact tame_runtimePanic _)
    | (with_reducible exact tame_boundsPanic _ _ _ _)
    | (with_reducible exact tame_asIntOf _)
    | (with_reducible exact tame_asInt _)
    | (with_reducible exact tame_asBool _)
    | (with_reducible exact tame_asAgg _)
    | (with_reducible exact tame_asAddr _)
    | (with_reducible exact tame_firstCells _ _ _)
    | (with_reducible exact tame_lenOf _)
    | (with_reducible exact tame_mapM _ (fun _ => tame_bind (tame_sizeOf _) fun _ => tame_pure trivial) _)
    | (with_reducible exact tame_sureAddr _)
    | (with_reducible exact tame_byteOf _)
    | (with_reducible exact tame_partAt _ _ _)
    | (with_reducible exact tame_fieldPlace _ _)
    | (with_reducible exact tame_intArith _ _ _ _)
    | (with_reducible exact tame_intBits _ _ _ _)
    | (with_reducible exact tame_intCmp _ _ _)
    | (with_reducible exact tame_intDiv _ _ _ _)
    | (with_reducible exact tame_shift _ _ _ _ _)
    | (with_reducible exact tame_stringOp _ _ _)
    | (with_reducible exact tame_addrSub _ _ _)
    | (with_reducible exact tame_addrCmp _ _ _)
    | (with_reducible exact tame_addrMod _ _ _)
    | (with_reducible exact tame_movedNumber _ _ _)
    | (with_reducible exact tame_movedPointer _ _ _)
    | (with_reducible refine tame_map ?_)
    | (with_reducible refine tame_bind ?_ fun _ => ?_)
    | (with_reducible refine Tame.ite (fun _ => ?_) (fun _ => ?_))
    | split
    | (dsimp only)
theorem tame_cCmp (op : BinOp) (k : FloatKind) (x y : Nat) : Tame P fz Tame.Any (Op.Complex.cmp op k x y) := by
  unfold Op.Complex.cmp
  repeat' first
    | (with_reducible exact tame_floatCmp _ _ _ _)
    | (with_reducible exact tame_pure trivial)
    | (with_reducible exact tame_stuck _)
    | (with_reducible exact tame_unsupported _)
    | (with_reducible exact tame_goPanic _)
    | (with_reducible exact Tame.halt trivial)
    | (with_reducible exact tame_load _ _)
    | (with_reducible exact tame_store _ _ _)
    | (with_reducible exact tame_newObj _)
    | (with_reducible exact tame_shape _)
    | (with_reducible exact tame_getObj _)
    | (with_reducible exact tame_choose _)
    | (with_reducible exact tame_program)
    | (with_reducible exact tame_askRoom _)
    | (with_reducible exact tame_viewAt _)
    | (with_reducible exact tame_numberAt _)
    | (with_reducible exact tame_asNumber _ _)
    | (with_reducible exact tame_behindNumber _)
    | (with_reducible exact tame_noView _)
    | (with_reducible exact tame_typeInfo _)
    | (with_reducible exact tame_underlying _)
    | (with_reducible exact tame_zeroValue _)
    | (with_reducible exact tame_sizeOf _)
    | (with_reducible exact tame_isAgg _)
    | (with_reducible exact tame_loadCells _ _)
    | (with_reducible exact tame_storeCells _ _ _)
    | (with_reducible exact tame_loadVar _ _)
    | (with_reducible exact tame_storeVar _ _ _)
    | (with_reducible exact tame_newRow _ _)
    | (with_reducible exact tame_newVar _ _)
    | (with_reducible exact tame_elemOf _)
    | (with_reducible exact tame_part _ _ _)
    | (with_reducible exact tame_runtimePanic _)
    | (with_reducible exact tame_boundsPanic _ _ _ _)
    | (with_reducible exact tame_asIntOf _)
    | (with_reducible exact tame_asInt _)
    | (with_reducible exact tame_asBool _)
    | (with_reducible exact tame_asAgg _)
    | (with_reducible exact tame_asAddr _)
    | (with_reducible exact tame_firstCells _ _ _)
    | (with_reducible exact tame_lenOf _)
    | (with_reducible exact tame_mapM _ (fun _ => tame_bind (tame_sizeOf _) fun _ => tame_pure trivial) _)
    | (with_reducible exact tame_sureAddr _)
    | (with_reducible exact tame_byteOf _)
    | (with_reducible exact tame_partAt _ _ _)
    | (with_reducible exact tame_fieldPlace _ _)
    | (with_reducible exact tame_intArith _ _ _ _)
    | (with_reducible exact tame_intBits _ _ _ _)
    | (with_reducible exact tame_intCmp _ _ _)
    | (with_reducible exact tame_intDiv _ _ _ _)
    | (with_reducible exact tame_shift _ _ _ _ _)
    | (with_reducible exact tame_stringOp _ _ _)
    | (with_reducible exact tame_addrSub _ _ _)
    | (with_reducible exact tame_addrCmp _ _ _)
    | (with_reducible exact tame_addrMod _ _ _)
    | (with_reducible exact tame_movedNumber _ _ _)
    | (with_reducible exact tame_movedPointer _ _ _)
    | (with_reducible refine tame_map ?_)
    | (with_reducible refine tame_bind ?_ fun _ => ?_)
    | (with_reducible refine Tame.ite (fun _ => ?_) (fun _ => ?_))
    | split
    | (dsimp only)
theorem tame_complexOp (op : BinOp) (h1 : op ≠ .mul) (h2 : op ≠ .quo) (k : FloatKind) (a b c d : Nat) : Tame P fz Tame.Any (Op.complexOp op k a b c d) := by
  unfold Op.complexOp
  repeat' first
    | (exact absurd rfl h1)
    | (exact absurd rfl h2)
    | (with_reducible exact tame_cCmp _ _ _ _)
    | (with_reducible exact tame_cArith _ _ _ _)
    | (with_reducible exact tame_pure trivial)
    | (with_reducible exact tame_stuck _)
    | (with_reducible exact tame_unsupported _)
    | (with_reducible exact tame_goPanic _)
    | (with_reducible exact Tame.halt trivial)
    | (with_reducible exact tame_load _ _)
    | (with_reducible exact tame_store _ _ _)
    | (with_reducible exact tame_newObj _)
    | (with_reducible exact tame_shape _)
    | (with_reducible exact tame_getObj _)
    | (with_reducible exact tame_choose _)
    | (with_reducible exact tame_program)
    | (with_reducible exact tame_askRoom _)
    | (with_reducible exact tame_viewAt _)
    | (with_reducible exact tame_numberAt _)
    | (with_reducible exact tame_asNumber _ _)
    | (with_reducible exact tame_behindNumber _)
    | (with_reducible exact tame_noView _)
    | (with_reducible exact tame_typeInfo _)
    | (with_reducible exact tame_underlying _)
    | (with_reducible exact tame_zeroValue _)
    | (with_reducible exact tame_sizeOf _)
    | (with_reducible exact tame_isAgg _)
    | (with_reducible exact tame_loadCells _ _)
    | (with_reducible exact tame_storeCells _ _ _)
    | (with_reducible exact tame_loadVar _ _)
    | (with_reducible exact tame_storeVar _ _ _)
    | (with_reducible exact tame_newRow _ _)
    | (with_reducible exact tame_newVar _ _)
    | (with_reducible exact tame_elemOf _)
    | (with_reducible exact tame_part _ _ _)
    | (with_reducible exact tame_runtimePanic _)
    | (with_reducible exact tame_boundsPanic _ _ _ _)
    | (with_reducible exact tame_asIntOf _)
    | (with_reducible exact tame_asInt _)
    | (with_reducible exact tame_asBool _)
    | (with_reducible exact tame_asAgg _)
    | (with_reducible exact tame_asAddr _)
    | (with_reducible exact tame_firstCells _ _ _)
    | (with_reducible exact tame_lenOf _)
    | (with_reducible exact tame_mapM _ (fun _ => tame_bind (tame_sizeOf _) fun _ => tame_pure trivial) _)
    | (with_reducible exact tame_sureAddr _)
    | (with_reducible exact tame_byteOf _)
    | (with_reducible exact tame_partAt _ _ _)
    | (with_reducible exact tame_fieldPlace _ _)
    | (with_reducible exact tame_intArith _ _ _ _)
    | (with_reducible exact tame_intBits _ _ _ _)
    | (with_reducible exact tame_intCmp _ _ _)
    | (with_reducible exact tame_intDiv _ _ _ _)
    | (with_reducible exact tame_shift _ _ _ _ _)
    | (with_reducible exact tame_stringOp _ _ _)
    | (with_reducible exact tame_addrSub _ _ _)
    | (with_reducible exact tame_addrCmp _ _ _)
    | (with_reducible exact tame_addrMod _ _ _)
    | (with_reducible exact tame_movedNumber _ _ _)
    | (with_reducible exact tame_movedPointer _ _ _)
    | (with_reducible refine tame_map ?_)
    | (with_reducible refine tame_bind ?_ fun _ => ?_)
    | (with_reducible refine Tame.ite (fun _ => ?_) (fun _ => ?_))
    | split
    | (dsimp only)

def isNumber : Operand → Bool
  | .const (.int _ _) => true
  | _ => false
def isNilConst : Operand → Bool
  | .const (.pointer .none) => true
  | _ => false
/-- The operators that the plain code uses: of numbers, strings, bools; equality where it asks of no frozen cell. -/
def binOk (P : Program) (fz : Bool) (op : BinOp) (t : TypeId) (x y : Operand) : Bool :=
  match op with
  | .eql | .neq => !fz || plainEq P t || isNilConst y
  | .mul | .quo => isNumber x || isNumber y
  | _ => true
theorem tame_binEq (op : BinOp) (hop : op = .eql ∨ op = .neq) (t : TypeId) (x y : Value) (h : Tame P fz Tame.Any (Op.equal t x y)) : Tame P fz Tame.Any (binOp op t x y) := by
  rcases hop with rfl | rfl
  all_goals
    unfold binOp
    repeat' first
      | contradiction
      | (with_reducible exact h)
      | (with_reducible exact tame_floatArith _ _ _ _)
      | (with_reducible exact tame_floatCmp _ _ _ _)
      | (with_reducible exact tame_complexOp _ (by decide) (by decide) _ _ _ _ _)
      | (with_reducible exact tame_pure trivial)
      | (with_reducible exact tame_stuck _)
      | (with_reducible exact tame_unsupported _)
      | (with_reducible exact tame_goPanic _)
      | (with_reducible exact Tame.halt trivial)
      | (with_reducible exact tame_load _ _)
      | (with_reducible exact tame_store _ _ _)
      | (with_reducible exact tame_newObj _)
      | (with_reducible exact tame_shape _)
      | (with_reducible exact tame_getObj _)
      | (with_reducible exact tame_choose _)
      | (with_reducible exact tame_program)
      | (with_reducible exact tame_askRoom _)
      | (with_reducible exact tame_viewAt _)
      | (with_reducible exact tame_numberAt _)
      | (with_reducible exact tame_asNumber _ _)
      | (with_reducible exact tame_behindNumber _)
      | (with_reducible exact tame_noView _)
      | (with_reducible exact tame_typeInfo _)
      | (with_reducible exact tame_underlying _)
      | (with_reducible exact tame_zeroValue _)
      | (with_reducible exact tame_sizeOf _)
      | (with_reducible exact tame_isAgg _)
      | (with_reducible exact tame_loadCells _ _)
      | (with_reducible exact tame_storeCells _ _ _)
      | (with_reducible exact tame_loadVar _ _)
      | (with_reducible exact tame_storeVar _ _ _)
      | (with_reducible exact tame_newRow _ _)
      | (with_reducible exact tame_newVar _ _)
      | (with_reducible exact tame_elemOf _)
      | (with_reducible exact tame_part _ _ _)
      | (with_reducible exact tame_runtimePanic _)
      | (with_reducible exact tame_boundsPanic _ _ _ _)
      | (with_reducible exact tame_asIntOf _)
      | (with_reducible exact tame_asInt _)
      | (with_reducible exact tame_asBool _)
      | (with_reducible exact tame_asAgg _)
      | (with_reducible exact tame_asAddr _)
      | (with_reducible exact tame_firstCells _ _ _)
      | (with_reducible exact tame_lenOf _)
      | (with_reducible exact tame_mapM _ (fun _ => tame_bind (tame_sizeOf _) fun _ => tame_pure trivial) _)
      | (with_reducible exact tame_sureAddr _)
      | (with_reducible exact tame_byteOf _)
      | (with_reducible exact tame_partAt _ _ _)
      | (with_reducible exact tame_fieldPlace _ _)
      | (with_reducible exact tame_intArith _ _ _ _)
      | (with_reducible exact tame_intBits _ _ _ _)
      | (with_reducible exact tame_intCmp _ _ _)
      | (with_reducible exact tame_intDiv _ _ _ _)
      | (with_reducible exact tame_shift _ _ _ _ _)
      | (with_reducible exact tame_stringOp _ _ _)
      | (with_reducible exact tame_addrSub _ _ _)
      | (with_reducible exact tame_addrCmp _ _ _)
      | (with_reducible exact tame_addrMod _ _ _)
      | (with_reducible exact tame_movedNumber _ _ _)
      | (with_reducible exact tame_movedPointer _ _ _)
      | (with_reducible refine tame_map ?_)
      | (with_reducible refine tame_bind ?_ fun _ => ?_)
      | (with_reducible refine Tame.ite (fun _ => ?_) (fun _ => ?_))
      | split
      | (dsimp only)

theorem tame_binRest (op : BinOp) (h1 : op ≠ .eql) (h2 : op ≠ .neq) (t : TypeId) (x y : Value) (hm : (op ≠ .mul ∧ op ≠ .quo) ∨ (∀ k a b, x ≠ .complex k a b) ∨ (∀ k a b, y ≠ .complex k a b)) : Tame P fz Tame.Any (binOp op t x y) := by
  unfold binOp
  repeat' first
    | contradiction
    | (exact absurd rfl h1)
    | (exact absurd rfl h2)
    | (with_reducible exact tame_floatArith _ _ _ _)
    | (with_reducible exact tame_floatCmp _ _ _ _)
    | (with_reducible exact tame_complexOp _ (hm.elim (fun h => h.1) (fun h => h.elim (fun h => absurd rfl (h _ _ _)) (fun h => absurd rfl (h _ _ _)))) (hm.elim (fun h => h.2) (fun h => h.elim (fun h => absurd rfl (h _ _ _)) (fun h => absurd rfl (h _ _ _)))) _ _ _ _ _)
    | (with_reducible exact tame_pure trivial)
    | (with_reducible exact tame_stuck _)
    | (with_reducible exact tame_unsupported _)
    | (with_reducible exact tame_goPanic _)
    | (with_reducible exact Tame.halt trivial)
    | (with_reducible exact tame_load _ _)
    | (with_reducible exact tame_store _ _ _)
    | (with_reducible exact tame_newObj _)
    | (with_reducible exact tame_shape _)
    | (with_reducible exact tame_getObj _)
    | (with_reducible exact tame_choose _)
    | (with_reducible exact tame_program)
    | (with_reducible exact tame_askRoom _)
    | (with_reducible exact tame_viewAt _)
    | (with_reducible exact tame_numberAt _)
    | (with_reducible exact tame_asNumber _ _)
    | (with_reducible exact tame_behindNumber _)
    | (with_reducible exact tame_noView _)
    | (with_reducible exact tame_typeInfo _)
    | (with_reducible exact tame_underlying _)
    | (with_reducible exact tame_zeroValue _)
    | (with_reducible exact tame_sizeOf _)
    | (with_reducible exact tame_isAgg _)
    | (with_reducible exact tame_loadCells _ _)
    | (with_reducible exact tame_storeCells _ _ _)
    | (with_reducible exact tame_loadVar _ _)
    | (with_reducible exact tame_storeVar _ _ _)
    | (with_reducible exact tame_newRow _ _)
    | (with_reducible exact tame_newVar _ _)
    | (with_reducible exact tame_elemOf _)
    | (with_reducible exact tame_part _ _ _)
    | (with_reducible exact tame_runtimePanic _)
    | (with_reducible exact tame_boundsPanic _ _ _ _)
    | (with_reducible exact tame_asIntOf _)
    | (with_reducible exact tame_asInt _)
    | (with_reducible exact tame_asBool _)
    | (with_reducible exact tame_asAgg _)
    | (with_reducible exact tame_asAddr _)
    | (with_reducible exact tame_firstCells _ _ _)
    | (with_reducible exact tame_lenOf _)
    | (with_reducible exact tame_mapM _ (fun _ => tame_bind (tame_sizeOf _) fun _ => tame_pure trivial) _)
    | (with_reducible exact tame_sureAddr _)
    | (with_reducible exact tame_byteOf _)
    | (with_reducible exact tame_partAt _ _ _)
    | (with_reducible exact tame_fieldPlace _ _)
    | (with_reducible exact tame_intArith _ _ _ _)
    | (with_reducible exact tame_intBits _ _ _ _)
    | (with_reducible exact tame_intCmp _ _ _)
    | (with_reducible exact tame_intDiv _ _ _ _)
    | (with_reducible exact tame_shift _ _ _ _ _)
    | (with_reducible exact tame_stringOp _ _ _)
    | (with_reducible exact tame_addrSub _ _ _)
    | (with_reducible exact tame_addrCmp _ _ _)
    | (with_reducible exact tame_addrMod _ _ _)
    | (with_reducible exact tame_movedNumber _ _ _)
    | (with_reducible exact tame_movedPointer _ _ _)
    | (with_reducible refine tame_map ?_)
    | (with_reducible refine tame_bind ?_ fun _ => ?_)
    | (with_reducible refine Tame.ite (fun _ => ?_) (fun _ => ?_))
    | split
    | (dsimp only)

end
end Go.Proofs.Ytoabkcalphpkhaa

/- An operation of plain code is tame, and what it comes to is a value, nothing, or the entry of a function of the list. No program in sight. -/
namespace Go.Proofs.Ytoabkcalphpkhaa
open Go Go.Conc
set_option linter.unusedVariables false
set_option linter.unusedSimpArgs false
set_option linter.unusedSectionVars false

/-- What a plain operation comes to. -/
def Leaf (S : FuncId → Prop) : Next → Prop
  | .value _ | .skip => True
  | .enter f _ => S f
  | _ => False

/-- The builtins of plain code. -/
def builtinOk : Builtin → Bool
  | .append | .len | .copy | .max => true
  | _ => false

/-- The operations of plain code. 'S': the functions that it may call. -/
def opOk (P : Program) (fz : Bool) (S : FuncId → Bool) : Op → Bool
  | .move _ | .assign _ | .pick _ _ _ | .alloc _ | .box _ _ | .build _ _ | .buildSlice _ _ _ | .load _ _ | .store _ _ _ | .unOp _ _ _ | .slice _ _ _ _ _ | .fieldAddr _ _ _ | .field _ _ _
  | .indexAddr _ _ _ | .index _ _ _ | .extract _ _ | .makeSlice _ _ _ | .makeChan _ _ | .makeFunc _ _ _ | .nilCheck _ => true
  | .binOp op t x y _ => binOk P fz op t x y
  | .call { callee := .value (.func f), .. } => S f
  | .call { callee := .builtin b, .. } => builtinOk b
  | _ => false

/-- A function with a Go body, of another name than the one that counts goroutines. -/
def bodied (P : Program) (f : FuncId) : Bool := match P.funcs[f]? with
  | some fn => fn.body.isSome && fn.name != "runtime.NumGoroutine"
  | none => false

section
variable {P : Program} {fz : Bool} {S : FuncId → Bool}
theorem tame_value {s : Sem Value} (h : Tame P fz Tame.Any s) : Tame P fz (Leaf fun f => S f = true) (do pure (.value (← s)) : Sem Next) := h.bind fun _ _ => .pure trivial
theorem tame_unit {s : Sem Unit} (h : Tame P fz Tame.Any s) : Tame P fz (Leaf fun f => S f = true) (do s; pure .skip : Sem Next) := h.bind fun _ _ => .pure trivial
theorem tame_callFunc (hS : ∀ f, S f = true → bodied P f = true) {f : FuncId} (hf : S f = true) (args : Array Value) : Tame P fz (Leaf fun f => S f = true) (callFunc f args) := by
  unfold callFunc
  have hb := hS f hf
  unfold bodied at hb
  show Tame P fz _ (Sem.program fun p => _)
  refine .program ?_
  show Tame P fz (Leaf fun f => S f = true) (match P.funcs[f]? with | none => stuck "call: no such function" | some fn => _)
  cases hfn : P.funcs[f]? with
  | none => exact .halt trivial
  | some fn =>
    rw [hfn] at hb
    simp only [Bool.and_eq_true, bne_iff_ne] at hb
    have h1 : (fn.name == "runtime.NumGoroutine") = false := by simpa using hb.2
    have h2 : fn.body.isNone = false := by cases hbd : fn.body <;> simp [hbd] at hb ⊢
    simp only [h1, h2]
    exact .pure hf
theorem tame_nilCheck (ρ : Operand → Value) (x : Operand) (t : TypeId) (dst : Option Tmp) (pos : String) (after : Array Edge) (guard : Option (Nat × Bool)) : Tame P fz (Leaf fun f => S f = true) (execOp ρ { dst, op := .nilCheck x, type := t, pos, after, guard }) := by
  unfold execOp
  dsimp only
  split
  · exact tame_runtimePanic _
  · exact tame_runtimePanic _
  · exact tame_runtimePanic _
  · split
    · exact tame_runtimePanic _
    · refine tame_bind tame_program fun _ => tame_bind (tame_nilAhead _ _ _ _) fun _ => ?_
      split
      · exact tame_bind (tame_unsupported _) fun _ => .pure trivial
      · exact .pure trivial
    · exact .pure trivial
  · exact .pure trivial
theorem tame_exec (hS : ∀ f, S f = true → bodied P f = true) {ρ : Operand → Value} (hρ : ∀ f, ρ (.func f) = .func (.func f) #[] #[]) (hc : ∀ v, ρ (.const v) = v) {o : Oper} (ho : opOk P fz S o.op = true) :
    Tame P fz (Leaf fun f => S f = true) (execOp ρ o) := by
  obtain ⟨dst, op, t, pos, after, guard⟩ := o
  cases op <;> simp only [opOk, Bool.false_eq_true] at ho
  case move => exact .pure trivial
  case assign => exact .pure trivial
  case pick c a b =>
    unfold execOp
    exact (tame_asBool _).bind fun _ _ => .pure trivial
  case alloc => exact tame_value (tame_alloc _ _ _)
  case box => exact tame_value (tame_box _ _)
  case build => exact tame_value (tame_build _ _)
  case buildSlice => exact tame_value (tame_buildSlice _ _ _)
  case load => exact tame_value (tame_loadAt _ _)
  case store => exact tame_unit (tame_storeAt _ _ _)
  case unOp => exact tame_value (tame_unary _ _)
  case slice => exact tame_value (tame_sliceAt _ _ _ _ _)
  case fieldAddr => exact tame_value (tame_fieldAt _ _ _)
  case field => exact tame_value (tame_field _ _ _)
  case indexAddr => exact tame_value (tame_indexAt _ _ _)
  case index => exact tame_value (tame_index _ _ _)
  case extract => exact tame_value (tame_extract _ _)
  case makeSlice => exact tame_value (tame_makeSlice _ _ _)
  case makeChan => exact tame_value (tame_makeChan _ _)
  case makeFunc => exact tame_value (tame_makeFunc _ _ _)
  case nilCheck => exact tame_nilCheck _ _ _ _ _ _ _
  case binOp op xt x y yt =>
    refine tame_value (tame_bind (tame_eqGuard _ _ _ _ _ _) fun _ => ?_)
    by_cases he : op = .eql ∨ op = .neq
    · refine tame_binEq op he _ _ _ ?_
      have ho' : (!fz || plainEq P xt || isNilConst y) = true := by
        rcases he with rfl | rfl <;> exact ho
      rw [Bool.or_eq_true, Bool.or_eq_true] at ho'
      rcases ho' with (h | h) | h
      · have hz : fz = false := by simpa using h
        exact tame_equal hz _ _ _
      · exact tame_equal_plain h _ _
      · unfold isNilConst at h
        split at h
        · rw [hc]; exact tame_equal_nil _
        · cases h
    · have h1 : op ≠ .eql := fun h => he (.inl h)
      have h2 : op ≠ .neq := fun h => he (.inr h)
      refine tame_binRest op h1 h2 _ _ _ ?_
      by_cases hm : op = .mul ∨ op = .quo
      · have ho' : (isNumber x || isNumber y) = true := by rcases hm with rfl | rfl <;> exact ho
        rw [Bool.or_eq_true] at ho'
        have key : ∀ z : Operand, isNumber z = true → ∀ k a b, ρ z ≠ .complex k a b := by
          intro z hz k a b e
          unfold isNumber at hz
          split at hz
          · rw [hc] at e; cases e
          · cases hz
        exact .inr (ho'.imp (key x) (key y))
      · exact .inl ⟨fun h => hm (.inl h), fun h => hm (.inr h)⟩
  case call c =>
    obtain ⟨callee, args, ts⟩ := c
    cases callee with
    | value f =>
      cases f with
      | func f =>
        simp only at ho
        show Tame P fz _ ((resolve ρ _ t).bind fun d => invoke d.target d.args)
        unfold resolve
        simp only [hρ, Deferred.ofValue]
        show Tame P fz _ (invoke (.fn (.func f) #[]) _)
        unfold invoke
        exact tame_callFunc hS ho _
      | _ => simp at ho
    | builtin b =>
      simp only at ho
      show Tame P fz _ ((resolve ρ _ t).bind fun d => invoke d.target d.args)
      unfold resolve
      show Tame P fz _ (invoke (.builtin b _ _ _) _)
      unfold invoke
      show Tame P fz _ (builtin b _ _ _ _)
      unfold builtin
      cases b <;> simp only [builtinOk, Bool.false_eq_true] at ho
      · exact tame_value (tame_append _ _ _)
      · exact tame_value (tame_copy _ _ _)
      · exact tame_value (tame_len _ _ _)
      · exact tame_value (tame_max _ _ _)
    | invoke r m => simp at ho
end
end Go.Proofs.Ytoabkcalphpkhaa

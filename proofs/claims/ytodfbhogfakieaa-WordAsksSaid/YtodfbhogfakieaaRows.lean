/-
  No cell of these rows narrows 'for every input' (looked for: loops, veiled, ifaces, maps, wideKeys, modest, calm, conditions, laid).
  DERIVED. THE GIVEN ROWS OF THIS SEAT. 6 by the template 'for every input the law returns true; each argument reads behind the call as it read before'; 0 by the template 'total and deterministic' (their statements: YtodfbhogfakieaaTotals.lean).
  GIVEN WITH THE SEED: the statements are not yours to turn. If you find one false, say at which input.
  Laid BY PROGRAM, IN A SANDBOX (cutbox-rows.mjs): the forced cells as the released guide's own fill.sh prints them over the translation d7cf0f9a3f68c89c… (all of the seat's roots in one cut). By AI agents, Wed Nov 11 2026. No macro, syntax, notation, axiom, sorry.
-/
import Derived.Test.YtodfbhogfakieaaChecked
import GoSem.Claim
import GoSem.ClaimJoined
import GoSem.ClaimMapViews
import Derived.JoinedTies
import Derived.KernelRfl
namespace Go.Proofs.Ytodfbhogfakieaa
/- THE CELL 'sum', in the pinned program and in every row, IS THE sha256 OF THE DUMP (.gsa) THAT YtodfbhogfakieaaProg.lean LOADS. Nothing in Lean hashes anything: it is a label: what it is worth is what the hold of that sum in a sandbox is worth. -/
noncomputable def Try.pinned : Pinned := { name := "ytodfbhogfakieaa", sum := "d7cf0f9a3f68c89cb30ad9187fe43b498370eef8740473a2433f45ccc90df64b", checked := Try.checked }
namespace Rows
def none {H : Type} : Left H := { results := [], args := [] }

/-- 'butlerlaw01.WordNames': WHATEVER THE INPUT: true; the input reads as it did. -/
def wordNamesSpec : ChangeSpec := { name := "wordNames", fn := fun _ => fun
  | [] => { results := [.lit (.bool true)], args := [] }
  | _ => none }
def wordNamesRow : OpenClaim := { program := "ytodfbhogfakieaa", sum := "d7cf0f9a3f68c89cb30ad9187fe43b498370eef8740473a2433f45ccc90df64b", func := "butler/butlerlaw01.WordNames", spec := "wordNames", apart := false }
def WordNamesSaid : Prop := wordNamesRow.holds Try.pinned (OpenSpec.ofChange wordNamesSpec)

/-- ITS FALSE NEIGHBOUR: 'it returns false'. Refute it at one input. -/
def wordNamesWrong : ChangeSpec := { name := "wordNames", fn := fun _ => fun
  | [] => { results := [.lit (.bool false)], args := [] }
  | _ => none }
def WordNamesWrongFalsely : Prop := wordNamesRow.holds Try.pinned (OpenSpec.ofChange wordNamesWrong)

/-- 'butlerlaw01.WordAsks': WHATEVER THE INPUT: true; the input reads as it did. -/
def wordAsksSpec : ChangeSpec := { name := "wordAsks", fn := fun _ => fun
  | [d1, d2, d3, d4] => { results := [.lit (.bool true)], args := [d1, d2, d3, d4] }
  | _ => none }
def wordAsksRow : OpenClaim := { program := "ytodfbhogfakieaa", sum := "d7cf0f9a3f68c89cb30ad9187fe43b498370eef8740473a2433f45ccc90df64b", func := "butler/butlerlaw01.WordAsks", spec := "wordAsks", apart := false }
def WordAsksSaid : Prop := wordAsksRow.holds Try.pinned (OpenSpec.ofChange wordAsksSpec)

/-- ITS FALSE NEIGHBOUR: 'it returns false'. Refute it at one input. -/
def wordAsksWrong : ChangeSpec := { name := "wordAsks", fn := fun _ => fun
  | [d1, d2, d3, d4] => { results := [.lit (.bool false)], args := [d1, d2, d3, d4] }
  | _ => none }
def WordAsksWrongFalsely : Prop := wordAsksRow.holds Try.pinned (OpenSpec.ofChange wordAsksWrong)

/-- 'butlerlaw01.WordBack': WHATEVER THE INPUT: true; the input reads as it did. -/
def wordBackSpec : ChangeSpec := { name := "wordBack", fn := fun _ => fun
  | [d1, d2, d3, d4] => { results := [.lit (.bool true)], args := [d1, d2, d3, d4] }
  | _ => none }
def wordBackRow : OpenClaim := { program := "ytodfbhogfakieaa", sum := "d7cf0f9a3f68c89cb30ad9187fe43b498370eef8740473a2433f45ccc90df64b", func := "butler/butlerlaw01.WordBack", spec := "wordBack", apart := false }
def WordBackSaid : Prop := wordBackRow.holds Try.pinned (OpenSpec.ofChange wordBackSpec)

/-- ITS FALSE NEIGHBOUR: 'it returns false'. Refute it at one input. -/
def wordBackWrong : ChangeSpec := { name := "wordBack", fn := fun _ => fun
  | [d1, d2, d3, d4] => { results := [.lit (.bool false)], args := [d1, d2, d3, d4] }
  | _ => none }
def WordBackWrongFalsely : Prop := wordBackRow.holds Try.pinned (OpenSpec.ofChange wordBackWrong)

/-- 'butlerlaw01.WordApart': WHATEVER THE INPUT: true; the input reads as it did. -/
def wordApartSpec : ChangeSpec := { name := "wordApart", fn := fun _ => fun
  | [d1, d2, d3, d4, d5] => { results := [.lit (.bool true)], args := [d1, d2, d3, d4, d5] }
  | _ => none }
def wordApartRow : OpenClaim := { program := "ytodfbhogfakieaa", sum := "d7cf0f9a3f68c89cb30ad9187fe43b498370eef8740473a2433f45ccc90df64b", func := "butler/butlerlaw01.WordApart", spec := "wordApart", apart := false }
def WordApartSaid : Prop := wordApartRow.holds Try.pinned (OpenSpec.ofChange wordApartSpec)

/-- ITS FALSE NEIGHBOUR: 'it returns false'. Refute it at one input. -/
def wordApartWrong : ChangeSpec := { name := "wordApart", fn := fun _ => fun
  | [d1, d2, d3, d4, d5] => { results := [.lit (.bool false)], args := [d1, d2, d3, d4, d5] }
  | _ => none }
def WordApartWrongFalsely : Prop := wordApartRow.holds Try.pinned (OpenSpec.ofChange wordApartWrong)

/-- 'butlerlaw01.WordWhole': WHATEVER THE INPUT: true; the input reads as it did. -/
def wordWholeSpec : ChangeSpec := { name := "wordWhole", fn := fun _ => fun
  | [d1, d2] => { results := [.lit (.bool true)], args := [d1, d2] }
  | _ => none }
def wordWholeRow : OpenClaim := { program := "ytodfbhogfakieaa", sum := "d7cf0f9a3f68c89cb30ad9187fe43b498370eef8740473a2433f45ccc90df64b", func := "butler/butlerlaw01.WordWhole", spec := "wordWhole", apart := false }
def WordWholeSaid : Prop := wordWholeRow.holds Try.pinned (OpenSpec.ofChange wordWholeSpec)

/-- ITS FALSE NEIGHBOUR: 'it returns false'. Refute it at one input. -/
def wordWholeWrong : ChangeSpec := { name := "wordWhole", fn := fun _ => fun
  | [d1, d2] => { results := [.lit (.bool false)], args := [d1, d2] }
  | _ => none }
def WordWholeWrongFalsely : Prop := wordWholeRow.holds Try.pinned (OpenSpec.ofChange wordWholeWrong)

/-- 'butlertop.TopNames': WHATEVER THE INPUT: true; the input reads as it did. -/
def topNamesSpec : ChangeSpec := { name := "topNames", fn := fun _ => fun
  | [] => { results := [.lit (.bool true)], args := [] }
  | _ => none }
def topNamesRow : OpenClaim := { program := "ytodfbhogfakieaa", sum := "d7cf0f9a3f68c89cb30ad9187fe43b498370eef8740473a2433f45ccc90df64b", func := "butler/butlertop.TopNames", spec := "topNames", apart := false }
def TopNamesSaid : Prop := topNamesRow.holds Try.pinned (OpenSpec.ofChange topNamesSpec)

/-- ITS FALSE NEIGHBOUR: 'it returns false'. Refute it at one input. -/
def topNamesWrong : ChangeSpec := { name := "topNames", fn := fun _ => fun
  | [] => { results := [.lit (.bool false)], args := [] }
  | _ => none }
def TopNamesWrongFalsely : Prop := topNamesRow.holds Try.pinned (OpenSpec.ofChange topNamesWrong)

/- THE SECOND FORM. 'bulk': how many values and letters a reading holds, each counted each time it is reached (what is shared counts as often as it is met; a slice's spare places count too). A statement '..UptoSaid' is the law's where the arguments, and the package variables that the reading takes, are together of bulk at most 1048576: NARROWER than '..Said'. Prove '..Said' where nothing that the law and all that it calls make is longer than what came in: it says more and counts as full. Else prove '..UptoSaid'. A law counts once. -/
mutual
def uptoBulk {H : Type} : DataW H → Nat
  | .lit (.string bytes) => bytes.length + 1
  | .lit _ => 1
  | .nil => 1
  | .ptr d => uptoBulk d + 1
  | .slice elems spare => uptoBulkAll elems + uptoBulkAll spare + 1
  | .agg parts => uptoBulkAll parts + 1
  | .iface _ d => uptoBulk d + 1
  | .map entries => uptoBulkEntries entries + 1
  | .held _ => 1
def uptoBulkAll {H : Type} : List (DataW H) → Nat
  | [] => 0
  | d :: r => uptoBulk d + uptoBulkAll r
def uptoBulkEntries {H : Type} : List (Lit × DataW H) → Nat
  | [] => 0
  | x :: r => uptoBulkEntry x + uptoBulkEntries r
def uptoBulkEntry {H : Type} : Lit × DataW H → Nat
  | (.string bytes, d) => bytes.length + uptoBulk d + 1
  | (_, d) => uptoBulk d + 1
 end
def uptoSmall : (H : Type) → List (DataW H) → Bool := fun _ ds => decide (uptoBulkAll ds ≤ 1048576)
def OpenSpec.upto (s : _root_.Go.ChangeSpec) : _root_.Go.OpenSpec := { _root_.Go.OpenSpec.ofChange s with cond := some uptoSmall }

/-- 'butlerlaw01.WordNames', WHERE WHAT IT READS IS OF BULK AT MOST 1048576: true; the input reads as it did. -/
def wordNamesUptoRow : OpenClaim := { program := "ytodfbhogfakieaa", sum := "d7cf0f9a3f68c89cb30ad9187fe43b498370eef8740473a2433f45ccc90df64b", func := "butler/butlerlaw01.WordNames", spec := "wordNames", apart := false, narrowed := true }
def WordNamesUptoSaid : Prop := wordNamesUptoRow.holds Try.pinned (OpenSpec.upto wordNamesSpec)

/-- 'butlerlaw01.WordAsks', WHERE WHAT IT READS IS OF BULK AT MOST 1048576: true; the input reads as it did. -/
def wordAsksUptoRow : OpenClaim := { program := "ytodfbhogfakieaa", sum := "d7cf0f9a3f68c89cb30ad9187fe43b498370eef8740473a2433f45ccc90df64b", func := "butler/butlerlaw01.WordAsks", spec := "wordAsks", apart := false, narrowed := true }
def WordAsksUptoSaid : Prop := wordAsksUptoRow.holds Try.pinned (OpenSpec.upto wordAsksSpec)

/-- 'butlerlaw01.WordBack', WHERE WHAT IT READS IS OF BULK AT MOST 1048576: true; the input reads as it did. -/
def wordBackUptoRow : OpenClaim := { program := "ytodfbhogfakieaa", sum := "d7cf0f9a3f68c89cb30ad9187fe43b498370eef8740473a2433f45ccc90df64b", func := "butler/butlerlaw01.WordBack", spec := "wordBack", apart := false, narrowed := true }
def WordBackUptoSaid : Prop := wordBackUptoRow.holds Try.pinned (OpenSpec.upto wordBackSpec)

/-- 'butlerlaw01.WordApart', WHERE WHAT IT READS IS OF BULK AT MOST 1048576: true; the input reads as it did. -/
def wordApartUptoRow : OpenClaim := { program := "ytodfbhogfakieaa", sum := "d7cf0f9a3f68c89cb30ad9187fe43b498370eef8740473a2433f45ccc90df64b", func := "butler/butlerlaw01.WordApart", spec := "wordApart", apart := false, narrowed := true }
def WordApartUptoSaid : Prop := wordApartUptoRow.holds Try.pinned (OpenSpec.upto wordApartSpec)

/-- 'butlerlaw01.WordWhole', WHERE WHAT IT READS IS OF BULK AT MOST 1048576: true; the input reads as it did. -/
def wordWholeUptoRow : OpenClaim := { program := "ytodfbhogfakieaa", sum := "d7cf0f9a3f68c89cb30ad9187fe43b498370eef8740473a2433f45ccc90df64b", func := "butler/butlerlaw01.WordWhole", spec := "wordWhole", apart := false, narrowed := true }
def WordWholeUptoSaid : Prop := wordWholeUptoRow.holds Try.pinned (OpenSpec.upto wordWholeSpec)

/-- 'butlertop.TopNames', WHERE WHAT IT READS IS OF BULK AT MOST 1048576: true; the input reads as it did. -/
def topNamesUptoRow : OpenClaim := { program := "ytodfbhogfakieaa", sum := "d7cf0f9a3f68c89cb30ad9187fe43b498370eef8740473a2433f45ccc90df64b", func := "butler/butlertop.TopNames", spec := "topNames", apart := false, narrowed := true }
def TopNamesUptoSaid : Prop := topNamesUptoRow.holds Try.pinned (OpenSpec.upto topNamesSpec)

end Rows
end Go.Proofs.Ytodfbhogfakieaa

/-
  No cell of these rows narrows 'for every input' (looked for: loops, veiled, ifaces, maps, wideKeys, modest, calm, conditions, laid).
  DERIVED. THE GIVEN ROWS OF THIS SEAT. 5 by the template 'for every input the law returns true; each argument reads behind the call as it read before'; 0 by the template 'total and deterministic' (their statements: YthmbmecodddkeaaTotals.lean).
  GIVEN WITH THE SEED: the statements are not yours to turn. If you find one false, say at which input.
  Laid BY PROGRAM, IN A SANDBOX (cutbox-rows.mjs): the forced cells as the released guide's own fill.sh prints them over the translation 9b7ed28fe90408aa… (all of the seat's roots in one cut). By AI agents, Wed Nov 11 2026. No macro, syntax, notation, axiom, sorry.
-/
import Derived.Test.YthmbmecodddkeaaChecked
import GoSem.Claim
import GoSem.ClaimJoined
import GoSem.ClaimMapViews
import Derived.JoinedTies
import Derived.KernelRfl
namespace Go.Proofs.Ythmbmecodddkeaa
/- THE CELL 'sum', in the pinned program and in every row, IS THE sha256 OF THE DUMP (.gsa) THAT YthmbmecodddkeaaProg.lean LOADS. Nothing in Lean hashes anything: it is a label: what it is worth is what the hold of that sum in a sandbox is worth. -/
noncomputable def Try.pinned : Pinned := { name := "ythmbmecodddkeaa", sum := "9b7ed28fe90408aa3b98cd5af4213b0f8637e470a2730713d67995732f349725", checked := Try.checked }
namespace Rows
def none {H : Type} : Left H := { results := [], args := [] }

/-- 'evergreenlaw47.FilesLarge': WHATEVER THE INPUT: true; the input reads as it did. -/
def filesLargeSpec : ChangeSpec := { name := "filesLarge", fn := fun _ => fun
  | [d1, d2] => { results := [.lit (.bool true)], args := [d1, d2] }
  | _ => none }
def filesLargeRow : OpenClaim := { program := "ythmbmecodddkeaa", sum := "9b7ed28fe90408aa3b98cd5af4213b0f8637e470a2730713d67995732f349725", func := "evergreen/evergreenlaw47.FilesLarge", spec := "filesLarge", recurses := true, apart := false }
def FilesLargeSaid : Prop := filesLargeRow.holds Try.pinned (OpenSpec.ofChange filesLargeSpec)

/-- ITS FALSE NEIGHBOUR: 'it returns false'. Refute it at one input. -/
def filesLargeWrong : ChangeSpec := { name := "filesLarge", fn := fun _ => fun
  | [d1, d2] => { results := [.lit (.bool false)], args := [d1, d2] }
  | _ => none }
def FilesLargeWrongFalsely : Prop := filesLargeRow.holds Try.pinned (OpenSpec.ofChange filesLargeWrong)

/-- 'evergreenlaw47.FilesNames': WHATEVER THE INPUT: true; the input reads as it did. -/
def filesNamesSpec : ChangeSpec := { name := "filesNames", fn := fun _ => fun
  | [d] => { results := [.lit (.bool true)], args := [d] }
  | _ => none }
def filesNamesRow : OpenClaim := { program := "ythmbmecodddkeaa", sum := "9b7ed28fe90408aa3b98cd5af4213b0f8637e470a2730713d67995732f349725", func := "evergreen/evergreenlaw47.FilesNames", spec := "filesNames", recurses := true, apart := false }
def FilesNamesSaid : Prop := filesNamesRow.holds Try.pinned (OpenSpec.ofChange filesNamesSpec)

/-- ITS FALSE NEIGHBOUR: 'it returns false'. Refute it at one input. -/
def filesNamesWrong : ChangeSpec := { name := "filesNames", fn := fun _ => fun
  | [d] => { results := [.lit (.bool false)], args := [d] }
  | _ => none }
def FilesNamesWrongFalsely : Prop := filesNamesRow.holds Try.pinned (OpenSpec.ofChange filesNamesWrong)

/-- 'evergreenlaw47.FilesPrefixes': WHATEVER THE INPUT: true; the input reads as it did. -/
def filesPrefixesSpec : ChangeSpec := { name := "filesPrefixes", fn := fun _ => fun
  | [d1, d2] => { results := [.lit (.bool true)], args := [d1, d2] }
  | _ => none }
def filesPrefixesRow : OpenClaim := { program := "ythmbmecodddkeaa", sum := "9b7ed28fe90408aa3b98cd5af4213b0f8637e470a2730713d67995732f349725", func := "evergreen/evergreenlaw47.FilesPrefixes", spec := "filesPrefixes", recurses := true, apart := false }
def FilesPrefixesSaid : Prop := filesPrefixesRow.holds Try.pinned (OpenSpec.ofChange filesPrefixesSpec)

/-- ITS FALSE NEIGHBOUR: 'it returns false'. Refute it at one input. -/
def filesPrefixesWrong : ChangeSpec := { name := "filesPrefixes", fn := fun _ => fun
  | [d1, d2] => { results := [.lit (.bool false)], args := [d1, d2] }
  | _ => none }
def FilesPrefixesWrongFalsely : Prop := filesPrefixesRow.holds Try.pinned (OpenSpec.ofChange filesPrefixesWrong)

/-- 'evergreenlaw47.FilesCopies': WHATEVER THE INPUT: true; the input reads as it did. -/
def filesCopiesSpec : ChangeSpec := { name := "filesCopies", fn := fun _ => fun
  | [d1, d2] => { results := [.lit (.bool true)], args := [d1, d2] }
  | _ => none }
def filesCopiesRow : OpenClaim := { program := "ythmbmecodddkeaa", sum := "9b7ed28fe90408aa3b98cd5af4213b0f8637e470a2730713d67995732f349725", func := "evergreen/evergreenlaw47.FilesCopies", spec := "filesCopies", recurses := true, apart := false }
def FilesCopiesSaid : Prop := filesCopiesRow.holds Try.pinned (OpenSpec.ofChange filesCopiesSpec)

/-- ITS FALSE NEIGHBOUR: 'it returns false'. Refute it at one input. -/
def filesCopiesWrong : ChangeSpec := { name := "filesCopies", fn := fun _ => fun
  | [d1, d2] => { results := [.lit (.bool false)], args := [d1, d2] }
  | _ => none }
def FilesCopiesWrongFalsely : Prop := filesCopiesRow.holds Try.pinned (OpenSpec.ofChange filesCopiesWrong)

/-- 'evergreenlaw47.FilesNone': WHATEVER THE INPUT: true; the input reads as it did. -/
def filesNoneSpec : ChangeSpec := { name := "filesNone", fn := fun _ => fun
  | [d1, d2] => { results := [.lit (.bool true)], args := [d1, d2] }
  | _ => none }
def filesNoneRow : OpenClaim := { program := "ythmbmecodddkeaa", sum := "9b7ed28fe90408aa3b98cd5af4213b0f8637e470a2730713d67995732f349725", func := "evergreen/evergreenlaw47.FilesNone", spec := "filesNone", recurses := true, apart := false }
def FilesNoneSaid : Prop := filesNoneRow.holds Try.pinned (OpenSpec.ofChange filesNoneSpec)

/-- ITS FALSE NEIGHBOUR: 'it returns false'. Refute it at one input. -/
def filesNoneWrong : ChangeSpec := { name := "filesNone", fn := fun _ => fun
  | [d1, d2] => { results := [.lit (.bool false)], args := [d1, d2] }
  | _ => none }
def FilesNoneWrongFalsely : Prop := filesNoneRow.holds Try.pinned (OpenSpec.ofChange filesNoneWrong)

/- THE SECOND FORM. 'bulk': how many values and letters a reading holds, each counted each time it is reached (what is shared counts as often as it is met; a slice's spare places count too). A statement '..UptoSaid' is the law's where the arguments, and the package variables that the reading takes, are together of bulk at most 1048576: NARROWER than '..Said'. Prove '..Said' where nothing that the law and all that it calls make is longer than what came in: it says more and counts as full. Else prove '..UptoSaid'. A law counts once. -/
mutual
def uptoBulk {H : Type} : DataW H → Nat
  | .lit (.string bytes) => bytes.length + 1
  | .lit _ => 1
  | .nil => 1
  | .ptr d => uptoBulk d + 1
  | .slice elems spare => uptoBulkAll elems + uptoBulkAll spare + 1
  | .agg parts => uptoBulkAll parts + 1
  | .iface _ d => uptoBulk d + 1
  | .map entries => uptoBulkEntries entries + 1
  | .held _ => 1
def uptoBulkAll {H : Type} : List (DataW H) → Nat
  | [] => 0
  | d :: r => uptoBulk d + uptoBulkAll r
def uptoBulkEntries {H : Type} : List (Lit × DataW H) → Nat
  | [] => 0
  | x :: r => uptoBulkEntry x + uptoBulkEntries r
def uptoBulkEntry {H : Type} : Lit × DataW H → Nat
  | (.string bytes, d) => bytes.length + uptoBulk d + 1
  | (_, d) => uptoBulk d + 1
 end
def uptoSmall : (H : Type) → List (DataW H) → Bool := fun _ ds => decide (uptoBulkAll ds ≤ 1048576)
def OpenSpec.upto (s : _root_.Go.ChangeSpec) : _root_.Go.OpenSpec := { _root_.Go.OpenSpec.ofChange s with cond := some uptoSmall }

/-- 'evergreenlaw47.FilesLarge', WHERE WHAT IT READS IS OF BULK AT MOST 1048576: true; the input reads as it did. -/
def filesLargeUptoRow : OpenClaim := { program := "ythmbmecodddkeaa", sum := "9b7ed28fe90408aa3b98cd5af4213b0f8637e470a2730713d67995732f349725", func := "evergreen/evergreenlaw47.FilesLarge", spec := "filesLarge", recurses := true, apart := false, narrowed := true }
def FilesLargeUptoSaid : Prop := filesLargeUptoRow.holds Try.pinned (OpenSpec.upto filesLargeSpec)

/-- 'evergreenlaw47.FilesNames', WHERE WHAT IT READS IS OF BULK AT MOST 1048576: true; the input reads as it did. -/
def filesNamesUptoRow : OpenClaim := { program := "ythmbmecodddkeaa", sum := "9b7ed28fe90408aa3b98cd5af4213b0f8637e470a2730713d67995732f349725", func := "evergreen/evergreenlaw47.FilesNames", spec := "filesNames", recurses := true, apart := false, narrowed := true }
def FilesNamesUptoSaid : Prop := filesNamesUptoRow.holds Try.pinned (OpenSpec.upto filesNamesSpec)

/-- 'evergreenlaw47.FilesPrefixes', WHERE WHAT IT READS IS OF BULK AT MOST 1048576: true; the input reads as it did. -/
def filesPrefixesUptoRow : OpenClaim := { program := "ythmbmecodddkeaa", sum := "9b7ed28fe90408aa3b98cd5af4213b0f8637e470a2730713d67995732f349725", func := "evergreen/evergreenlaw47.FilesPrefixes", spec := "filesPrefixes", recurses := true, apart := false, narrowed := true }
def FilesPrefixesUptoSaid : Prop := filesPrefixesUptoRow.holds Try.pinned (OpenSpec.upto filesPrefixesSpec)

/-- 'evergreenlaw47.FilesCopies', WHERE WHAT IT READS IS OF BULK AT MOST 1048576: true; the input reads as it did. -/
def filesCopiesUptoRow : OpenClaim := { program := "ythmbmecodddkeaa", sum := "9b7ed28fe90408aa3b98cd5af4213b0f8637e470a2730713d67995732f349725", func := "evergreen/evergreenlaw47.FilesCopies", spec := "filesCopies", recurses := true, apart := false, narrowed := true }
def FilesCopiesUptoSaid : Prop := filesCopiesUptoRow.holds Try.pinned (OpenSpec.upto filesCopiesSpec)

/-- 'evergreenlaw47.FilesNone', WHERE WHAT IT READS IS OF BULK AT MOST 1048576: true; the input reads as it did. -/
def filesNoneUptoRow : OpenClaim := { program := "ythmbmecodddkeaa", sum := "9b7ed28fe90408aa3b98cd5af4213b0f8637e470a2730713d67995732f349725", func := "evergreen/evergreenlaw47.FilesNone", spec := "filesNone", recurses := true, apart := false, narrowed := true }
def FilesNoneUptoSaid : Prop := filesNoneUptoRow.holds Try.pinned (OpenSpec.upto filesNoneSpec)

end Rows
end Go.Proofs.Ythmbmecodddkeaa

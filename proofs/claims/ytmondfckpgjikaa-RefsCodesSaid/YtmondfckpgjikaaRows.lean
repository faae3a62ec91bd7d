/-
  No cell of these rows narrows 'for every input' (looked for: loops, veiled, ifaces, maps, wideKeys, modest, calm, conditions, laid).
  DERIVED. THE GIVEN ROWS OF THIS SEAT. 10 by the template 'for every input the law returns true; each argument reads behind the call as it read before'; 0 by the template 'total and deterministic' (their statements: YtmondfckpgjikaaTotals.lean).
  GIVEN WITH THE SEED: the statements are not yours to turn. If you find one false, say at which input.
  Laid BY PROGRAM, IN A SANDBOX (cutbox-rows.mjs): the forced cells as the released guide's own fill.sh prints them over the translation 7cb3c9b8657cbbc1… (all of the seat's roots in one cut). By AI agents, Wed Nov 11 2026. No macro, syntax, notation, axiom, sorry.
-/
import Derived.Test.YtmondfckpgjikaaChecked
import GoSem.Claim
import GoSem.ClaimJoined
import GoSem.ClaimMapViews
import Derived.JoinedTies
import Derived.KernelRfl
namespace Go.Proofs.Ytmondfckpgjikaa
/- THE CELL 'sum', in the pinned program and in every row, IS THE sha256 OF THE DUMP (.gsa) THAT YtmondfckpgjikaaProg.lean LOADS. Nothing in Lean hashes anything: it is a label: what it is worth is what the hold of that sum in a sandbox is worth. -/
noncomputable def Try.pinned : Pinned := { name := "ytmondfckpgjikaa", sum := "7cb3c9b8657cbbc1b4156a5358c1a2585fb236fcb22c9dbc045701b3210e0435", checked := Try.checked }
namespace Rows
def none {H : Type} : Left H := { results := [], args := [] }

/-- 'evergreenlaw46.RefsSwaps': WHATEVER THE INPUT: true; the input reads as it did. -/
def refsSwapsSpec : ChangeSpec := { name := "refsSwaps", fn := fun _ => fun
  | [d1, d2, d3] => { results := [.lit (.bool true)], args := [d1, d2, d3] }
  | _ => none }
def refsSwapsRow : OpenClaim := { program := "ytmondfckpgjikaa", sum := "7cb3c9b8657cbbc1b4156a5358c1a2585fb236fcb22c9dbc045701b3210e0435", func := "evergreen/evergreenlaw46.RefsSwaps", spec := "refsSwaps", apart := false }
def RefsSwapsSaid : Prop := refsSwapsRow.holds Try.pinned (OpenSpec.ofChange refsSwapsSpec)

/-- ITS FALSE NEIGHBOUR: 'it returns false'. Refute it at one input. -/
def refsSwapsWrong : ChangeSpec := { name := "refsSwaps", fn := fun _ => fun
  | [d1, d2, d3] => { results := [.lit (.bool false)], args := [d1, d2, d3] }
  | _ => none }
def RefsSwapsWrongFalsely : Prop := refsSwapsRow.holds Try.pinned (OpenSpec.ofChange refsSwapsWrong)

/-- 'evergreenlaw46.RefsValid': WHATEVER THE INPUT: true; the input reads as it did. -/
def refsValidSpec : ChangeSpec := { name := "refsValid", fn := fun _ => fun
  | [d] => { results := [.lit (.bool true)], args := [d] }
  | _ => none }
def refsValidRow : OpenClaim := { program := "ytmondfckpgjikaa", sum := "7cb3c9b8657cbbc1b4156a5358c1a2585fb236fcb22c9dbc045701b3210e0435", func := "evergreen/evergreenlaw46.RefsValid", spec := "refsValid", apart := false }
def RefsValidSaid : Prop := refsValidRow.holds Try.pinned (OpenSpec.ofChange refsValidSpec)

/-- ITS FALSE NEIGHBOUR: 'it returns false'. Refute it at one input. -/
def refsValidWrong : ChangeSpec := { name := "refsValid", fn := fun _ => fun
  | [d] => { results := [.lit (.bool false)], args := [d] }
  | _ => none }
def RefsValidWrongFalsely : Prop := refsValidRow.holds Try.pinned (OpenSpec.ofChange refsValidWrong)

/-- 'evergreenlaw46.RefsGets': WHATEVER THE INPUT: true; the input reads as it did. -/
def refsGetsSpec : ChangeSpec := { name := "refsGets", fn := fun _ => fun
  | [d1, d2] => { results := [.lit (.bool true)], args := [d1, d2] }
  | _ => none }
def refsGetsRow : OpenClaim := { program := "ytmondfckpgjikaa", sum := "7cb3c9b8657cbbc1b4156a5358c1a2585fb236fcb22c9dbc045701b3210e0435", func := "evergreen/evergreenlaw46.RefsGets", spec := "refsGets", apart := false }
def RefsGetsSaid : Prop := refsGetsRow.holds Try.pinned (OpenSpec.ofChange refsGetsSpec)

/-- ITS FALSE NEIGHBOUR: 'it returns false'. Refute it at one input. -/
def refsGetsWrong : ChangeSpec := { name := "refsGets", fn := fun _ => fun
  | [d1, d2] => { results := [.lit (.bool false)], args := [d1, d2] }
  | _ => none }
def RefsGetsWrongFalsely : Prop := refsGetsRow.holds Try.pinned (OpenSpec.ofChange refsGetsWrong)

/-- 'evergreenlaw46.RefsPlay': WHATEVER THE INPUT: true; the input reads as it did. -/
def refsPlaySpec : ChangeSpec := { name := "refsPlay", fn := fun _ => fun
  | [d] => { results := [.lit (.bool true)], args := [d] }
  | _ => none }
def refsPlayRow : OpenClaim := { program := "ytmondfckpgjikaa", sum := "7cb3c9b8657cbbc1b4156a5358c1a2585fb236fcb22c9dbc045701b3210e0435", func := "evergreen/evergreenlaw46.RefsPlay", spec := "refsPlay", recurses := true, apart := false }
def RefsPlaySaid : Prop := refsPlayRow.holds Try.pinned (OpenSpec.ofChange refsPlaySpec)

/-- ITS FALSE NEIGHBOUR: 'it returns false'. Refute it at one input. -/
def refsPlayWrong : ChangeSpec := { name := "refsPlay", fn := fun _ => fun
  | [d] => { results := [.lit (.bool false)], args := [d] }
  | _ => none }
def RefsPlayWrongFalsely : Prop := refsPlayRow.holds Try.pinned (OpenSpec.ofChange refsPlayWrong)

/-- 'evergreenlaw46.RefsMoves': WHATEVER THE INPUT: true; the input reads as it did. -/
def refsMovesSpec : ChangeSpec := { name := "refsMoves", fn := fun _ => fun
  | [d1, d2, d3] => { results := [.lit (.bool true)], args := [d1, d2, d3] }
  | _ => none }
def refsMovesRow : OpenClaim := { program := "ytmondfckpgjikaa", sum := "7cb3c9b8657cbbc1b4156a5358c1a2585fb236fcb22c9dbc045701b3210e0435", func := "evergreen/evergreenlaw46.RefsMoves", spec := "refsMoves", recurses := true, apart := false }
def RefsMovesSaid : Prop := refsMovesRow.holds Try.pinned (OpenSpec.ofChange refsMovesSpec)

/-- ITS FALSE NEIGHBOUR: 'it returns false'. Refute it at one input. -/
def refsMovesWrong : ChangeSpec := { name := "refsMoves", fn := fun _ => fun
  | [d1, d2, d3] => { results := [.lit (.bool false)], args := [d1, d2, d3] }
  | _ => none }
def RefsMovesWrongFalsely : Prop := refsMovesRow.holds Try.pinned (OpenSpec.ofChange refsMovesWrong)

/-- 'evergreenlaw46.RefsCopies': WHATEVER THE INPUT: true; the input reads as it did. -/
def refsCopiesSpec : ChangeSpec := { name := "refsCopies", fn := fun _ => fun
  | [d1, d2] => { results := [.lit (.bool true)], args := [d1, d2] }
  | _ => none }
def refsCopiesRow : OpenClaim := { program := "ytmondfckpgjikaa", sum := "7cb3c9b8657cbbc1b4156a5358c1a2585fb236fcb22c9dbc045701b3210e0435", func := "evergreen/evergreenlaw46.RefsCopies", spec := "refsCopies", recurses := true, apart := false }
def RefsCopiesSaid : Prop := refsCopiesRow.holds Try.pinned (OpenSpec.ofChange refsCopiesSpec)

/-- ITS FALSE NEIGHBOUR: 'it returns false'. Refute it at one input. -/
def refsCopiesWrong : ChangeSpec := { name := "refsCopies", fn := fun _ => fun
  | [d1, d2] => { results := [.lit (.bool false)], args := [d1, d2] }
  | _ => none }
def RefsCopiesWrongFalsely : Prop := refsCopiesRow.holds Try.pinned (OpenSpec.ofChange refsCopiesWrong)

/-- 'evergreenlaw46.RefsOrder': WHATEVER THE INPUT: true; the input reads as it did. -/
def refsOrderSpec : ChangeSpec := { name := "refsOrder", fn := fun _ => fun
  | [d1, d2] => { results := [.lit (.bool true)], args := [d1, d2] }
  | _ => none }
def refsOrderRow : OpenClaim := { program := "ytmondfckpgjikaa", sum := "7cb3c9b8657cbbc1b4156a5358c1a2585fb236fcb22c9dbc045701b3210e0435", func := "evergreen/evergreenlaw46.RefsOrder", spec := "refsOrder", recurses := true, apart := false }
def RefsOrderSaid : Prop := refsOrderRow.holds Try.pinned (OpenSpec.ofChange refsOrderSpec)

/-- ITS FALSE NEIGHBOUR: 'it returns false'. Refute it at one input. -/
def refsOrderWrong : ChangeSpec := { name := "refsOrder", fn := fun _ => fun
  | [d1, d2] => { results := [.lit (.bool false)], args := [d1, d2] }
  | _ => none }
def RefsOrderWrongFalsely : Prop := refsOrderRow.holds Try.pinned (OpenSpec.ofChange refsOrderWrong)

/-- 'evergreenlaw46.RefsLists': WHATEVER THE INPUT: true; the input reads as it did. -/
def refsListsSpec : ChangeSpec := { name := "refsLists", fn := fun _ => fun
  | [d1, d2] => { results := [.lit (.bool true)], args := [d1, d2] }
  | _ => none }
def refsListsRow : OpenClaim := { program := "ytmondfckpgjikaa", sum := "7cb3c9b8657cbbc1b4156a5358c1a2585fb236fcb22c9dbc045701b3210e0435", func := "evergreen/evergreenlaw46.RefsLists", spec := "refsLists", recurses := true, apart := false }
def RefsListsSaid : Prop := refsListsRow.holds Try.pinned (OpenSpec.ofChange refsListsSpec)

/-- ITS FALSE NEIGHBOUR: 'it returns false'. Refute it at one input. -/
def refsListsWrong : ChangeSpec := { name := "refsLists", fn := fun _ => fun
  | [d1, d2] => { results := [.lit (.bool false)], args := [d1, d2] }
  | _ => none }
def RefsListsWrongFalsely : Prop := refsListsRow.holds Try.pinned (OpenSpec.ofChange refsListsWrong)

/-- 'evergreenlaw46.RefsCodes': WHATEVER THE INPUT: true; the input reads as it did. -/
def refsCodesSpec : ChangeSpec := { name := "refsCodes", fn := fun _ => fun
  | [d] => { results := [.lit (.bool true)], args := [d] }
  | _ => none }
def refsCodesRow : OpenClaim := { program := "ytmondfckpgjikaa", sum := "7cb3c9b8657cbbc1b4156a5358c1a2585fb236fcb22c9dbc045701b3210e0435", func := "evergreen/evergreenlaw46.RefsCodes", spec := "refsCodes", recurses := true, apart := false }
def RefsCodesSaid : Prop := refsCodesRow.holds Try.pinned (OpenSpec.ofChange refsCodesSpec)

/-- ITS FALSE NEIGHBOUR: 'it returns false'. Refute it at one input. -/
def refsCodesWrong : ChangeSpec := { name := "refsCodes", fn := fun _ => fun
  | [d] => { results := [.lit (.bool false)], args := [d] }
  | _ => none }
def RefsCodesWrongFalsely : Prop := refsCodesRow.holds Try.pinned (OpenSpec.ofChange refsCodesWrong)

/-- 'evergreenlaw46.RefsNil': WHATEVER THE INPUT: true; the input reads as it did. -/
def refsNilSpec : ChangeSpec := { name := "refsNil", fn := fun _ => fun
  | [d1, d2, d3] => { results := [.lit (.bool true)], args := [d1, d2, d3] }
  | _ => none }
def refsNilRow : OpenClaim := { program := "ytmondfckpgjikaa", sum := "7cb3c9b8657cbbc1b4156a5358c1a2585fb236fcb22c9dbc045701b3210e0435", func := "evergreen/evergreenlaw46.RefsNil", spec := "refsNil", recurses := true, apart := false }
def RefsNilSaid : Prop := refsNilRow.holds Try.pinned (OpenSpec.ofChange refsNilSpec)

/-- ITS FALSE NEIGHBOUR: 'it returns false'. Refute it at one input. -/
def refsNilWrong : ChangeSpec := { name := "refsNil", fn := fun _ => fun
  | [d1, d2, d3] => { results := [.lit (.bool false)], args := [d1, d2, d3] }
  | _ => none }
def RefsNilWrongFalsely : Prop := refsNilRow.holds Try.pinned (OpenSpec.ofChange refsNilWrong)

/- THE SECOND FORM. 'bulk': how many values and letters a reading holds, each counted each time it is reached (what is shared counts as often as it is met; a slice's spare places count too). A statement '..UptoSaid' is the law's where the arguments, and the package variables that the reading takes, are together of bulk at most 1048576: NARROWER than '..Said'. Prove '..Said' where nothing that the law and all that it calls make is longer than what came in: it says more and counts as full. Else prove '..UptoSaid'. A law counts once. -/
mutual
def uptoBulk {H : Type} : DataW H → Nat
  | .lit (.string bytes) => bytes.length + 1
  | .lit _ => 1
  | .nil => 1
  | .ptr d => uptoBulk d + 1
  | .slice elems spare => uptoBulkAll elems + uptoBulkAll spare + 1
  | .agg parts => uptoBulkAll parts + 1
  | .iface _ d => uptoBulk d + 1
  | .map entries => uptoBulkEntries entries + 1
  | .held _ => 1
def uptoBulkAll {H : Type} : List (DataW H) → Nat
  | [] => 0
  | d :: r => uptoBulk d + uptoBulkAll r
def uptoBulkEntries {H : Type} : List (Lit × DataW H) → Nat
  | [] => 0
  | x :: r => uptoBulkEntry x + uptoBulkEntries r
def uptoBulkEntry {H : Type} : Lit × DataW H → Nat
  | (.string bytes, d) => bytes.length + uptoBulk d + 1
  | (_, d) => uptoBulk d + 1
 end
def uptoSmall : (H : Type) → List (DataW H) → Bool := fun _ ds => decide (uptoBulkAll ds ≤ 1048576)
def OpenSpec.upto (s : _root_.Go.ChangeSpec) : _root_.Go.OpenSpec := { _root_.Go.OpenSpec.ofChange s with cond := some uptoSmall }

/-- 'evergreenlaw46.RefsSwaps', WHERE WHAT IT READS IS OF BULK AT MOST 1048576: true; the input reads as it did. -/
def refsSwapsUptoRow : OpenClaim := { program := "ytmondfckpgjikaa", sum := "7cb3c9b8657cbbc1b4156a5358c1a2585fb236fcb22c9dbc045701b3210e0435", func := "evergreen/evergreenlaw46.RefsSwaps", spec := "refsSwaps", apart := false, narrowed := true }
def RefsSwapsUptoSaid : Prop := refsSwapsUptoRow.holds Try.pinned (OpenSpec.upto refsSwapsSpec)

/-- 'evergreenlaw46.RefsValid', WHERE WHAT IT READS IS OF BULK AT MOST 1048576: true; the input reads as it did. -/
def refsValidUptoRow : OpenClaim := { program := "ytmondfckpgjikaa", sum := "7cb3c9b8657cbbc1b4156a5358c1a2585fb236fcb22c9dbc045701b3210e0435", func := "evergreen/evergreenlaw46.RefsValid", spec := "refsValid", apart := false, narrowed := true }
def RefsValidUptoSaid : Prop := refsValidUptoRow.holds Try.pinned (OpenSpec.upto refsValidSpec)

/-- 'evergreenlaw46.RefsGets', WHERE WHAT IT READS IS OF BULK AT MOST 1048576: true; the input reads as it did. -/
def refsGetsUptoRow : OpenClaim := { program := "ytmondfckpgjikaa", sum := "7cb3c9b8657cbbc1b4156a5358c1a2585fb236fcb22c9dbc045701b3210e0435", func := "evergreen/evergreenlaw46.RefsGets", spec := "refsGets", apart := false, narrowed := true }
def RefsGetsUptoSaid : Prop := refsGetsUptoRow.holds Try.pinned (OpenSpec.upto refsGetsSpec)

/-- 'evergreenlaw46.RefsPlay', WHERE WHAT IT READS IS OF BULK AT MOST 1048576: true; the input reads as it did. -/
def refsPlayUptoRow : OpenClaim := { program := "ytmondfckpgjikaa", sum := "7cb3c9b8657cbbc1b4156a5358c1a2585fb236fcb22c9dbc045701b3210e0435", func := "evergreen/evergreenlaw46.RefsPlay", spec := "refsPlay", recurses := true, apart := false, narrowed := true }
def RefsPlayUptoSaid : Prop := refsPlayUptoRow.holds Try.pinned (OpenSpec.upto refsPlaySpec)

/-- 'evergreenlaw46.RefsMoves', WHERE WHAT IT READS IS OF BULK AT MOST 1048576: true; the input reads as it did. -/
def refsMovesUptoRow : OpenClaim := { program := "ytmondfckpgjikaa", sum := "7cb3c9b8657cbbc1b4156a5358c1a2585fb236fcb22c9dbc045701b3210e0435", func := "evergreen/evergreenlaw46.RefsMoves", spec := "refsMoves", recurses := true, apart := false, narrowed := true }
def RefsMovesUptoSaid : Prop := refsMovesUptoRow.holds Try.pinned (OpenSpec.upto refsMovesSpec)

/-- 'evergreenlaw46.RefsCopies', WHERE WHAT IT READS IS OF BULK AT MOST 1048576: true; the input reads as it did. -/
def refsCopiesUptoRow : OpenClaim := { program := "ytmondfckpgjikaa", sum := "7cb3c9b8657cbbc1b4156a5358c1a2585fb236fcb22c9dbc045701b3210e0435", func := "evergreen/evergreenlaw46.RefsCopies", spec := "refsCopies", recurses := true, apart := false, narrowed := true }
def RefsCopiesUptoSaid : Prop := refsCopiesUptoRow.holds Try.pinned (OpenSpec.upto refsCopiesSpec)

/-- 'evergreenlaw46.RefsOrder', WHERE WHAT IT READS IS OF BULK AT MOST 1048576: true; the input reads as it did. -/
def refsOrderUptoRow : OpenClaim := { program := "ytmondfckpgjikaa", sum := "7cb3c9b8657cbbc1b4156a5358c1a2585fb236fcb22c9dbc045701b3210e0435", func := "evergreen/evergreenlaw46.RefsOrder", spec := "refsOrder", recurses := true, apart := false, narrowed := true }
def RefsOrderUptoSaid : Prop := refsOrderUptoRow.holds Try.pinned (OpenSpec.upto refsOrderSpec)

/-- 'evergreenlaw46.RefsLists', WHERE WHAT IT READS IS OF BULK AT MOST 1048576: true; the input reads as it did. -/
def refsListsUptoRow : OpenClaim := { program := "ytmondfckpgjikaa", sum := "7cb3c9b8657cbbc1b4156a5358c1a2585fb236fcb22c9dbc045701b3210e0435", func := "evergreen/evergreenlaw46.RefsLists", spec := "refsLists", recurses := true, apart := false, narrowed := true }
def RefsListsUptoSaid : Prop := refsListsUptoRow.holds Try.pinned (OpenSpec.upto refsListsSpec)

/-- 'evergreenlaw46.RefsCodes', WHERE WHAT IT READS IS OF BULK AT MOST 1048576: true; the input reads as it did. -/
def refsCodesUptoRow : OpenClaim := { program := "ytmondfckpgjikaa", sum := "7cb3c9b8657cbbc1b4156a5358c1a2585fb236fcb22c9dbc045701b3210e0435", func := "evergreen/evergreenlaw46.RefsCodes", spec := "refsCodes", recurses := true, apart := false, narrowed := true }
def RefsCodesUptoSaid : Prop := refsCodesUptoRow.holds Try.pinned (OpenSpec.upto refsCodesSpec)

/-- 'evergreenlaw46.RefsNil', WHERE WHAT IT READS IS OF BULK AT MOST 1048576: true; the input reads as it did. -/
def refsNilUptoRow : OpenClaim := { program := "ytmondfckpgjikaa", sum := "7cb3c9b8657cbbc1b4156a5358c1a2585fb236fcb22c9dbc045701b3210e0435", func := "evergreen/evergreenlaw46.RefsNil", spec := "refsNil", recurses := true, apart := false, narrowed := true }
def RefsNilUptoSaid : Prop := refsNilUptoRow.holds Try.pinned (OpenSpec.upto refsNilSpec)

end Rows
end Go.Proofs.Ytmondfckpgjikaa

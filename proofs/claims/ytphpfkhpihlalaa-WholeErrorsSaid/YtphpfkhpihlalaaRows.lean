/-
  No cell of these rows narrows 'for every input' (looked for: loops, veiled, ifaces, maps, wideKeys, modest, calm, conditions, laid).
  DERIVED. THE GIVEN ROWS OF THIS SEAT. 6 by the template 'for every input the law returns true; each argument reads behind the call as it read before'; 0 by the template 'total and deterministic' (their statements: YtphpfkhpihlalaaTotals.lean).
  GIVEN WITH THE SEED: the statements are not yours to turn. If you find one false, say at which input.
  Laid BY PROGRAM, IN A SANDBOX (cutbox-rows.mjs): the forced cells as the released guide's own fill.sh prints them over the translation b776b645c725fff9… (all of the seat's roots in one cut). By AI agents, Wed Nov 11 2026. No macro, syntax, notation, axiom, sorry.
-/
import Derived.Test.YtphpfkhpihlalaaChecked
import GoSem.Claim
import GoSem.ClaimJoined
import GoSem.ClaimMapViews
import Derived.JoinedTies
import Derived.KernelRfl
namespace Go.Proofs.Ytphpfkhpihlalaa
/- THE CELL 'sum', in the pinned program and in every row, IS THE sha256 OF THE DUMP (.gsa) THAT YtphpfkhpihlalaaProg.lean LOADS. Nothing in Lean hashes anything: it is a label: what it is worth is what the hold of that sum in a sandbox is worth. -/
noncomputable def Try.pinned : Pinned := { name := "ytphpfkhpihlalaa", sum := "b776b645c725fff9159019a4d033cac0e31f9cd3ba2c39d7583405eed97e667c", checked := Try.checked }
namespace Rows
def none {H : Type} : Left H := { results := [], args := [] }

/-- 'evergreentop.WholeSplits': WHATEVER THE INPUT: true; the input reads as it did. -/
def wholeSplitsSpec : ChangeSpec := { name := "wholeSplits", fn := fun _ => fun
  | [d1, d2, d3] => { results := [.lit (.bool true)], args := [d1, d2, d3] }
  | _ => none }
def wholeSplitsRow : OpenClaim := { program := "ytphpfkhpihlalaa", sum := "b776b645c725fff9159019a4d033cac0e31f9cd3ba2c39d7583405eed97e667c", func := "evergreen/evergreentop.WholeSplits", spec := "wholeSplits", unfollowed := true, recurses := true, plainKeys := false, apart := false }
def WholeSplitsSaid : Prop := wholeSplitsRow.holds Try.pinned (OpenSpec.ofChange wholeSplitsSpec)

/-- ITS FALSE NEIGHBOUR: 'it returns false'. Refute it at one input. -/
def wholeSplitsWrong : ChangeSpec := { name := "wholeSplits", fn := fun _ => fun
  | [d1, d2, d3] => { results := [.lit (.bool false)], args := [d1, d2, d3] }
  | _ => none }
def WholeSplitsWrongFalsely : Prop := wholeSplitsRow.holds Try.pinned (OpenSpec.ofChange wholeSplitsWrong)

/-- 'evergreentop.WholeFull': WHATEVER THE INPUT: true; the input reads as it did. -/
def wholeFullSpec : ChangeSpec := { name := "wholeFull", fn := fun _ => fun
  | [d1, d2] => { results := [.lit (.bool true)], args := [d1, d2] }
  | _ => none }
def wholeFullRow : OpenClaim := { program := "ytphpfkhpihlalaa", sum := "b776b645c725fff9159019a4d033cac0e31f9cd3ba2c39d7583405eed97e667c", func := "evergreen/evergreentop.WholeFull", spec := "wholeFull", unfollowed := true, recurses := true, plainKeys := false, apart := false }
def WholeFullSaid : Prop := wholeFullRow.holds Try.pinned (OpenSpec.ofChange wholeFullSpec)

/-- ITS FALSE NEIGHBOUR: 'it returns false'. Refute it at one input. -/
def wholeFullWrong : ChangeSpec := { name := "wholeFull", fn := fun _ => fun
  | [d1, d2] => { results := [.lit (.bool false)], args := [d1, d2] }
  | _ => none }
def WholeFullWrongFalsely : Prop := wholeFullRow.holds Try.pinned (OpenSpec.ofChange wholeFullWrong)

/-- 'evergreentop.WholeRotates': WHATEVER THE INPUT: true; the input reads as it did. -/
def wholeRotatesSpec : ChangeSpec := { name := "wholeRotates", fn := fun _ => fun
  | [d1, d2, d3] => { results := [.lit (.bool true)], args := [d1, d2, d3] }
  | _ => none }
def wholeRotatesRow : OpenClaim := { program := "ytphpfkhpihlalaa", sum := "b776b645c725fff9159019a4d033cac0e31f9cd3ba2c39d7583405eed97e667c", func := "evergreen/evergreentop.WholeRotates", spec := "wholeRotates", unfollowed := true, recurses := true, plainKeys := false, apart := false }
def WholeRotatesSaid : Prop := wholeRotatesRow.holds Try.pinned (OpenSpec.ofChange wholeRotatesSpec)

/-- ITS FALSE NEIGHBOUR: 'it returns false'. Refute it at one input. -/
def wholeRotatesWrong : ChangeSpec := { name := "wholeRotates", fn := fun _ => fun
  | [d1, d2, d3] => { results := [.lit (.bool false)], args := [d1, d2, d3] }
  | _ => none }
def WholeRotatesWrongFalsely : Prop := wholeRotatesRow.holds Try.pinned (OpenSpec.ofChange wholeRotatesWrong)

/-- 'evergreentop.WholeBalanced': WHATEVER THE INPUT: true; the input reads as it did. -/
def wholeBalancedSpec : ChangeSpec := { name := "wholeBalanced", fn := fun _ => fun
  | [d] => { results := [.lit (.bool true)], args := [d] }
  | _ => none }
def wholeBalancedRow : OpenClaim := { program := "ytphpfkhpihlalaa", sum := "b776b645c725fff9159019a4d033cac0e31f9cd3ba2c39d7583405eed97e667c", func := "evergreen/evergreentop.WholeBalanced", spec := "wholeBalanced", unfollowed := true, recurses := true, plainKeys := false, apart := false }
def WholeBalancedSaid : Prop := wholeBalancedRow.holds Try.pinned (OpenSpec.ofChange wholeBalancedSpec)

/-- ITS FALSE NEIGHBOUR: 'it returns false'. Refute it at one input. -/
def wholeBalancedWrong : ChangeSpec := { name := "wholeBalanced", fn := fun _ => fun
  | [d] => { results := [.lit (.bool false)], args := [d] }
  | _ => none }
def WholeBalancedWrongFalsely : Prop := wholeBalancedRow.holds Try.pinned (OpenSpec.ofChange wholeBalancedWrong)

/-- 'evergreentop.WholeErrors': WHATEVER THE INPUT: true; the input reads as it did. -/
def wholeErrorsSpec : ChangeSpec := { name := "wholeErrors", fn := fun _ => fun
  | [d] => { results := [.lit (.bool true)], args := [d] }
  | _ => none }
def wholeErrorsRow : OpenClaim := { program := "ytphpfkhpihlalaa", sum := "b776b645c725fff9159019a4d033cac0e31f9cd3ba2c39d7583405eed97e667c", func := "evergreen/evergreentop.WholeErrors", spec := "wholeErrors", unfollowed := true, recurses := true, plainKeys := false, apart := false }
def WholeErrorsSaid : Prop := wholeErrorsRow.holds Try.pinned (OpenSpec.ofChange wholeErrorsSpec)

/-- ITS FALSE NEIGHBOUR: 'it returns false'. Refute it at one input. -/
def wholeErrorsWrong : ChangeSpec := { name := "wholeErrors", fn := fun _ => fun
  | [d] => { results := [.lit (.bool false)], args := [d] }
  | _ => none }
def WholeErrorsWrongFalsely : Prop := wholeErrorsRow.holds Try.pinned (OpenSpec.ofChange wholeErrorsWrong)

/-- 'evergreentop.WholeLines': WHATEVER THE INPUT: true; the input reads as it did. -/
def wholeLinesSpec : ChangeSpec := { name := "wholeLines", fn := fun _ => fun
  | [d] => { results := [.lit (.bool true)], args := [d] }
  | _ => none }
def wholeLinesRow : OpenClaim := { program := "ytphpfkhpihlalaa", sum := "b776b645c725fff9159019a4d033cac0e31f9cd3ba2c39d7583405eed97e667c", func := "evergreen/evergreentop.WholeLines", spec := "wholeLines", unfollowed := true, recurses := true, plainKeys := false, apart := false }
def WholeLinesSaid : Prop := wholeLinesRow.holds Try.pinned (OpenSpec.ofChange wholeLinesSpec)

/-- ITS FALSE NEIGHBOUR: 'it returns false'. Refute it at one input. -/
def wholeLinesWrong : ChangeSpec := { name := "wholeLines", fn := fun _ => fun
  | [d] => { results := [.lit (.bool false)], args := [d] }
  | _ => none }
def WholeLinesWrongFalsely : Prop := wholeLinesRow.holds Try.pinned (OpenSpec.ofChange wholeLinesWrong)

/- THE SECOND FORM. 'bulk': how many values and letters a reading holds, each counted each time it is reached (what is shared counts as often as it is met; a slice's spare places count too). A statement '..UptoSaid' is the law's where the arguments, and the package variables that the reading takes, are together of bulk at most 1048576: NARROWER than '..Said'. Prove '..Said' where nothing that the law and all that it calls make is longer than what came in: it says more and counts as full. Else prove '..UptoSaid'. A law counts once. -/
mutual
def uptoBulk {H : Type} : DataW H → Nat
  | .lit (.string bytes) => bytes.length + 1
  | .lit _ => 1
  | .nil => 1
  | .ptr d => uptoBulk d + 1
  | .slice elems spare => uptoBulkAll elems + uptoBulkAll spare + 1
  | .agg parts => uptoBulkAll parts + 1
  | .iface _ d => uptoBulk d + 1
  | .map entries => uptoBulkEntries entries + 1
  | .held _ => 1
def uptoBulkAll {H : Type} : List (DataW H) → Nat
  | [] => 0
  | d :: r => uptoBulk d + uptoBulkAll r
def uptoBulkEntries {H : Type} : List (Lit × DataW H) → Nat
  | [] => 0
  | x :: r => uptoBulkEntry x + uptoBulkEntries r
def uptoBulkEntry {H : Type} : Lit × DataW H → Nat
  | (.string bytes, d) => bytes.length + uptoBulk d + 1
  | (_, d) => uptoBulk d + 1
 end
def uptoSmall : (H : Type) → List (DataW H) → Bool := fun _ ds => decide (uptoBulkAll ds ≤ 1048576)
def OpenSpec.upto (s : _root_.Go.ChangeSpec) : _root_.Go.OpenSpec := { _root_.Go.OpenSpec.ofChange s with cond := some uptoSmall }

/-- 'evergreentop.WholeSplits', WHERE WHAT IT READS IS OF BULK AT MOST 1048576: true; the input reads as it did. -/
def wholeSplitsUptoRow : OpenClaim := { program := "ytphpfkhpihlalaa", sum := "b776b645c725fff9159019a4d033cac0e31f9cd3ba2c39d7583405eed97e667c", func := "evergreen/evergreentop.WholeSplits", spec := "wholeSplits", unfollowed := true, recurses := true, plainKeys := false, apart := false, narrowed := true }
def WholeSplitsUptoSaid : Prop := wholeSplitsUptoRow.holds Try.pinned (OpenSpec.upto wholeSplitsSpec)

/-- 'evergreentop.WholeFull', WHERE WHAT IT READS IS OF BULK AT MOST 1048576: true; the input reads as it did. -/
def wholeFullUptoRow : OpenClaim := { program := "ytphpfkhpihlalaa", sum := "b776b645c725fff9159019a4d033cac0e31f9cd3ba2c39d7583405eed97e667c", func := "evergreen/evergreentop.WholeFull", spec := "wholeFull", unfollowed := true, recurses := true, plainKeys := false, apart := false, narrowed := true }
def WholeFullUptoSaid : Prop := wholeFullUptoRow.holds Try.pinned (OpenSpec.upto wholeFullSpec)

/-- 'evergreentop.WholeRotates', WHERE WHAT IT READS IS OF BULK AT MOST 1048576: true; the input reads as it did. -/
def wholeRotatesUptoRow : OpenClaim := { program := "ytphpfkhpihlalaa", sum := "b776b645c725fff9159019a4d033cac0e31f9cd3ba2c39d7583405eed97e667c", func := "evergreen/evergreentop.WholeRotates", spec := "wholeRotates", unfollowed := true, recurses := true, plainKeys := false, apart := false, narrowed := true }
def WholeRotatesUptoSaid : Prop := wholeRotatesUptoRow.holds Try.pinned (OpenSpec.upto wholeRotatesSpec)

/-- 'evergreentop.WholeBalanced', WHERE WHAT IT READS IS OF BULK AT MOST 1048576: true; the input reads as it did. -/
def wholeBalancedUptoRow : OpenClaim := { program := "ytphpfkhpihlalaa", sum := "b776b645c725fff9159019a4d033cac0e31f9cd3ba2c39d7583405eed97e667c", func := "evergreen/evergreentop.WholeBalanced", spec := "wholeBalanced", unfollowed := true, recurses := true, plainKeys := false, apart := false, narrowed := true }
def WholeBalancedUptoSaid : Prop := wholeBalancedUptoRow.holds Try.pinned (OpenSpec.upto wholeBalancedSpec)

/-- 'evergreentop.WholeErrors', WHERE WHAT IT READS IS OF BULK AT MOST 1048576: true; the input reads as it did. -/
def wholeErrorsUptoRow : OpenClaim := { program := "ytphpfkhpihlalaa", sum := "b776b645c725fff9159019a4d033cac0e31f9cd3ba2c39d7583405eed97e667c", func := "evergreen/evergreentop.WholeErrors", spec := "wholeErrors", unfollowed := true, recurses := true, plainKeys := false, apart := false, narrowed := true }
def WholeErrorsUptoSaid : Prop := wholeErrorsUptoRow.holds Try.pinned (OpenSpec.upto wholeErrorsSpec)

/-- 'evergreentop.WholeLines', WHERE WHAT IT READS IS OF BULK AT MOST 1048576: true; the input reads as it did. -/
def wholeLinesUptoRow : OpenClaim := { program := "ytphpfkhpihlalaa", sum := "b776b645c725fff9159019a4d033cac0e31f9cd3ba2c39d7583405eed97e667c", func := "evergreen/evergreentop.WholeLines", spec := "wholeLines", unfollowed := true, recurses := true, plainKeys := false, apart := false, narrowed := true }
def WholeLinesUptoSaid : Prop := wholeLinesUptoRow.holds Try.pinned (OpenSpec.upto wholeLinesSpec)

end Rows
end Go.Proofs.Ytphpfkhpihlalaa

/-
  No cell of these rows narrows 'for every input' (looked for: loops, veiled, ifaces, maps, wideKeys, modest, calm, conditions, laid).
  DERIVED. THE GIVEN ROWS OF THIS SEAT. 6 by the template 'for every input the law returns true; each argument reads behind the call as it read before'; 0 by the template 'total and deterministic' (their statements: YtniefnjcimempaaTotals.lean).
  GIVEN WITH THE SEED: the statements are not yours to turn. If you find one false, say at which input.
  Laid BY PROGRAM, IN A SANDBOX (cutbox-rows.mjs): the forced cells as the released guide's own fill.sh prints them over the translation 905181f0f387bd6d… (all of the seat's roots in one cut). By AI agents, Wed Nov 11 2026. No macro, syntax, notation, axiom, sorry.
-/
import Derived.Test.YtniefnjcimempaaChecked
import GoSem.Claim
import GoSem.ClaimJoined
import GoSem.ClaimMapViews
import Derived.JoinedTies
import Derived.KernelRfl
namespace Go.Proofs.Ytniefnjcimempaa
/- THE CELL 'sum', in the pinned program and in every row, IS THE sha256 OF THE DUMP (.gsa) THAT YtniefnjcimempaaProg.lean LOADS. Nothing in Lean hashes anything: it is a label: what it is worth is what the hold of that sum in a sandbox is worth. -/
noncomputable def Try.pinned : Pinned := { name := "ytniefnjcimempaa", sum := "905181f0f387bd6dc878f25241b135171ae22babf042b651bdbd0e5d002dc4c0", checked := Try.checked }
namespace Rows
def none {H : Type} : Left H := { results := [], args := [] }

/-- 'evergreenlaw56.PlanLarge': WHATEVER THE INPUT: true; the input reads as it did. -/
def planLargeSpec : ChangeSpec := { name := "planLarge", fn := fun _ => fun
  | [d] => { results := [.lit (.bool true)], args := [d] }
  | _ => none }
def planLargeRow : OpenClaim := { program := "ytniefnjcimempaa", sum := "905181f0f387bd6dc878f25241b135171ae22babf042b651bdbd0e5d002dc4c0", func := "evergreen/evergreenlaw56.PlanLarge", spec := "planLarge", inPlace := ["internal/bytealg.CountString", "internal/bytealg.IndexByteString", "internal/bytealg.IndexString"], unfollowed := true, recurses := true, named := ["internal/bytealg.MaxLen"], plainKeys := false, apart := false }
def PlanLargeSaid : Prop := planLargeRow.holds Try.pinned (OpenSpec.ofChange planLargeSpec)

/-- ITS FALSE NEIGHBOUR: 'it returns false'. Refute it at one input. -/
def planLargeWrong : ChangeSpec := { name := "planLarge", fn := fun _ => fun
  | [d] => { results := [.lit (.bool false)], args := [d] }
  | _ => none }
def PlanLargeWrongFalsely : Prop := planLargeRow.holds Try.pinned (OpenSpec.ofChange planLargeWrong)

/-- 'evergreenlaw56.PlanAgain': WHATEVER THE INPUT: true; the input reads as it did. -/
def planAgainSpec : ChangeSpec := { name := "planAgain", fn := fun _ => fun
  | [d] => { results := [.lit (.bool true)], args := [d] }
  | _ => none }
def planAgainRow : OpenClaim := { program := "ytniefnjcimempaa", sum := "905181f0f387bd6dc878f25241b135171ae22babf042b651bdbd0e5d002dc4c0", func := "evergreen/evergreenlaw56.PlanAgain", spec := "planAgain", inPlace := ["internal/bytealg.CountString", "internal/bytealg.IndexByteString", "internal/bytealg.IndexString"], unfollowed := true, recurses := true, named := ["internal/bytealg.MaxLen"], plainKeys := false, apart := false }
def PlanAgainSaid : Prop := planAgainRow.holds Try.pinned (OpenSpec.ofChange planAgainSpec)

/-- ITS FALSE NEIGHBOUR: 'it returns false'. Refute it at one input. -/
def planAgainWrong : ChangeSpec := { name := "planAgain", fn := fun _ => fun
  | [d] => { results := [.lit (.bool false)], args := [d] }
  | _ => none }
def PlanAgainWrongFalsely : Prop := planAgainRow.holds Try.pinned (OpenSpec.ofChange planAgainWrong)

/-- 'evergreenlaw57.OptimizeEnds': WHATEVER THE INPUT: true; the input reads as it did. -/
def optimizeEndsSpec : ChangeSpec := { name := "optimizeEnds", fn := fun _ => fun
  | [d] => { results := [.lit (.bool true)], args := [d] }
  | _ => none }
def optimizeEndsRow : OpenClaim := { program := "ytniefnjcimempaa", sum := "905181f0f387bd6dc878f25241b135171ae22babf042b651bdbd0e5d002dc4c0", func := "evergreen/evergreenlaw57.OptimizeEnds", spec := "optimizeEnds", inPlace := ["internal/bytealg.CountString", "internal/bytealg.IndexByteString", "internal/bytealg.IndexString", "slices.overlaps[evergreen/plan.Step]"], unfollowed := true, recurses := true, named := ["internal/bytealg.MaxLen"], plainKeys := false, apart := false }
def OptimizeEndsSaid : Prop := optimizeEndsRow.holds Try.pinned (OpenSpec.ofChange optimizeEndsSpec)

/-- ITS FALSE NEIGHBOUR: 'it returns false'. Refute it at one input. -/
def optimizeEndsWrong : ChangeSpec := { name := "optimizeEnds", fn := fun _ => fun
  | [d] => { results := [.lit (.bool false)], args := [d] }
  | _ => none }
def OptimizeEndsWrongFalsely : Prop := optimizeEndsRow.holds Try.pinned (OpenSpec.ofChange optimizeEndsWrong)

/-- 'evergreenlaw57.OptimizeRules': WHATEVER THE INPUT: true; the input reads as it did. -/
def optimizeRulesSpec : ChangeSpec := { name := "optimizeRules", fn := fun _ => fun
  | [d] => { results := [.lit (.bool true)], args := [d] }
  | _ => none }
def optimizeRulesRow : OpenClaim := { program := "ytniefnjcimempaa", sum := "905181f0f387bd6dc878f25241b135171ae22babf042b651bdbd0e5d002dc4c0", func := "evergreen/evergreenlaw57.OptimizeRules", spec := "optimizeRules", inPlace := ["internal/bytealg.CountString", "internal/bytealg.IndexByteString", "internal/bytealg.IndexString", "slices.overlaps[evergreen/plan.Step]"], unfollowed := true, recurses := true, named := ["internal/bytealg.MaxLen"], plainKeys := false, apart := false }
def OptimizeRulesSaid : Prop := optimizeRulesRow.holds Try.pinned (OpenSpec.ofChange optimizeRulesSpec)

/-- ITS FALSE NEIGHBOUR: 'it returns false'. Refute it at one input. -/
def optimizeRulesWrong : ChangeSpec := { name := "optimizeRules", fn := fun _ => fun
  | [d] => { results := [.lit (.bool false)], args := [d] }
  | _ => none }
def OptimizeRulesWrongFalsely : Prop := optimizeRulesRow.holds Try.pinned (OpenSpec.ofChange optimizeRulesWrong)

/-- 'evergreenlaw57.OptimizeCosts': WHATEVER THE INPUT: true; the input reads as it did. -/
def optimizeCostsSpec : ChangeSpec := { name := "optimizeCosts", fn := fun _ => fun
  | [d] => { results := [.lit (.bool true)], args := [d] }
  | _ => none }
def optimizeCostsRow : OpenClaim := { program := "ytniefnjcimempaa", sum := "905181f0f387bd6dc878f25241b135171ae22babf042b651bdbd0e5d002dc4c0", func := "evergreen/evergreenlaw57.OptimizeCosts", spec := "optimizeCosts", inPlace := ["internal/bytealg.CountString", "internal/bytealg.IndexByteString", "internal/bytealg.IndexString", "slices.overlaps[evergreen/plan.Step]"], unfollowed := true, recurses := true, named := ["internal/bytealg.MaxLen"], plainKeys := false, apart := false }
def OptimizeCostsSaid : Prop := optimizeCostsRow.holds Try.pinned (OpenSpec.ofChange optimizeCostsSpec)

/-- ITS FALSE NEIGHBOUR: 'it returns false'. Refute it at one input. -/
def optimizeCostsWrong : ChangeSpec := { name := "optimizeCosts", fn := fun _ => fun
  | [d] => { results := [.lit (.bool false)], args := [d] }
  | _ => none }
def OptimizeCostsWrongFalsely : Prop := optimizeCostsRow.holds Try.pinned (OpenSpec.ofChange optimizeCostsWrong)

/-- 'evergreenlaw57.OptimizeWalks': WHATEVER THE INPUT: true; the input reads as it did. -/
def optimizeWalksSpec : ChangeSpec := { name := "optimizeWalks", fn := fun _ => fun
  | [d] => { results := [.lit (.bool true)], args := [d] }
  | _ => none }
def optimizeWalksRow : OpenClaim := { program := "ytniefnjcimempaa", sum := "905181f0f387bd6dc878f25241b135171ae22babf042b651bdbd0e5d002dc4c0", func := "evergreen/evergreenlaw57.OptimizeWalks", spec := "optimizeWalks", inPlace := ["internal/bytealg.CountString", "internal/bytealg.IndexByteString", "internal/bytealg.IndexString", "slices.overlaps[evergreen/plan.Step]"], unfollowed := true, recurses := true, named := ["internal/bytealg.MaxLen"], plainKeys := false, apart := false }
def OptimizeWalksSaid : Prop := optimizeWalksRow.holds Try.pinned (OpenSpec.ofChange optimizeWalksSpec)

/-- ITS FALSE NEIGHBOUR: 'it returns false'. Refute it at one input. -/
def optimizeWalksWrong : ChangeSpec := { name := "optimizeWalks", fn := fun _ => fun
  | [d] => { results := [.lit (.bool false)], args := [d] }
  | _ => none }
def OptimizeWalksWrongFalsely : Prop := optimizeWalksRow.holds Try.pinned (OpenSpec.ofChange optimizeWalksWrong)

/- THE SECOND FORM. 'bulk': how many values and letters a reading holds, each counted each time it is reached (what is shared counts as often as it is met; a slice's spare places count too). A statement '..UptoSaid' is the law's where the arguments, and the package variables that the reading takes, are together of bulk at most 1048576: NARROWER than '..Said'. Prove '..Said' where nothing that the law and all that it calls make is longer than what came in: it says more and counts as full. Else prove '..UptoSaid'. A law counts once. -/
mutual
def uptoBulk {H : Type} : DataW H → Nat
  | .lit (.string bytes) => bytes.length + 1
  | .lit _ => 1
  | .nil => 1
  | .ptr d => uptoBulk d + 1
  | .slice elems spare => uptoBulkAll elems + uptoBulkAll spare + 1
  | .agg parts => uptoBulkAll parts + 1
  | .iface _ d => uptoBulk d + 1
  | .map entries => uptoBulkEntries entries + 1
  | .held _ => 1
def uptoBulkAll {H : Type} : List (DataW H) → Nat
  | [] => 0
  | d :: r => uptoBulk d + uptoBulkAll r
def uptoBulkEntries {H : Type} : List (Lit × DataW H) → Nat
  | [] => 0
  | x :: r => uptoBulkEntry x + uptoBulkEntries r
def uptoBulkEntry {H : Type} : Lit × DataW H → Nat
  | (.string bytes, d) => bytes.length + uptoBulk d + 1
  | (_, d) => uptoBulk d + 1
 end
def uptoSmall : (H : Type) → List (DataW H) → Bool := fun _ ds => decide (uptoBulkAll ds ≤ 1048576)
def OpenSpec.upto (s : _root_.Go.ChangeSpec) : _root_.Go.OpenSpec := { _root_.Go.OpenSpec.ofChange s with cond := some uptoSmall }

/-- 'evergreenlaw56.PlanLarge', WHERE WHAT IT READS IS OF BULK AT MOST 1048576: true; the input reads as it did. -/
def planLargeUptoRow : OpenClaim := { program := "ytniefnjcimempaa", sum := "905181f0f387bd6dc878f25241b135171ae22babf042b651bdbd0e5d002dc4c0", func := "evergreen/evergreenlaw56.PlanLarge", spec := "planLarge", inPlace := ["internal/bytealg.CountString", "internal/bytealg.IndexByteString", "internal/bytealg.IndexString"], unfollowed := true, recurses := true, named := ["internal/bytealg.MaxLen"], plainKeys := false, apart := false, narrowed := true }
def PlanLargeUptoSaid : Prop := planLargeUptoRow.holds Try.pinned (OpenSpec.upto planLargeSpec)

/-- 'evergreenlaw56.PlanAgain', WHERE WHAT IT READS IS OF BULK AT MOST 1048576: true; the input reads as it did. -/
def planAgainUptoRow : OpenClaim := { program := "ytniefnjcimempaa", sum := "905181f0f387bd6dc878f25241b135171ae22babf042b651bdbd0e5d002dc4c0", func := "evergreen/evergreenlaw56.PlanAgain", spec := "planAgain", inPlace := ["internal/bytealg.CountString", "internal/bytealg.IndexByteString", "internal/bytealg.IndexString"], unfollowed := true, recurses := true, named := ["internal/bytealg.MaxLen"], plainKeys := false, apart := false, narrowed := true }
def PlanAgainUptoSaid : Prop := planAgainUptoRow.holds Try.pinned (OpenSpec.upto planAgainSpec)

/-- 'evergreenlaw57.OptimizeEnds', WHERE WHAT IT READS IS OF BULK AT MOST 1048576: true; the input reads as it did. -/
def optimizeEndsUptoRow : OpenClaim := { program := "ytniefnjcimempaa", sum := "905181f0f387bd6dc878f25241b135171ae22babf042b651bdbd0e5d002dc4c0", func := "evergreen/evergreenlaw57.OptimizeEnds", spec := "optimizeEnds", inPlace := ["internal/bytealg.CountString", "internal/bytealg.IndexByteString", "internal/bytealg.IndexString", "slices.overlaps[evergreen/plan.Step]"], unfollowed := true, recurses := true, named := ["internal/bytealg.MaxLen"], plainKeys := false, apart := false, narrowed := true }
def OptimizeEndsUptoSaid : Prop := optimizeEndsUptoRow.holds Try.pinned (OpenSpec.upto optimizeEndsSpec)

/-- 'evergreenlaw57.OptimizeRules', WHERE WHAT IT READS IS OF BULK AT MOST 1048576: true; the input reads as it did. -/
def optimizeRulesUptoRow : OpenClaim := { program := "ytniefnjcimempaa", sum := "905181f0f387bd6dc878f25241b135171ae22babf042b651bdbd0e5d002dc4c0", func := "evergreen/evergreenlaw57.OptimizeRules", spec := "optimizeRules", inPlace := ["internal/bytealg.CountString", "internal/bytealg.IndexByteString", "internal/bytealg.IndexString", "slices.overlaps[evergreen/plan.Step]"], unfollowed := true, recurses := true, named := ["internal/bytealg.MaxLen"], plainKeys := false, apart := false, narrowed := true }
def OptimizeRulesUptoSaid : Prop := optimizeRulesUptoRow.holds Try.pinned (OpenSpec.upto optimizeRulesSpec)

/-- 'evergreenlaw57.OptimizeCosts', WHERE WHAT IT READS IS OF BULK AT MOST 1048576: true; the input reads as it did. -/
def optimizeCostsUptoRow : OpenClaim := { program := "ytniefnjcimempaa", sum := "905181f0f387bd6dc878f25241b135171ae22babf042b651bdbd0e5d002dc4c0", func := "evergreen/evergreenlaw57.OptimizeCosts", spec := "optimizeCosts", inPlace := ["internal/bytealg.CountString", "internal/bytealg.IndexByteString", "internal/bytealg.IndexString", "slices.overlaps[evergreen/plan.Step]"], unfollowed := true, recurses := true, named := ["internal/bytealg.MaxLen"], plainKeys := false, apart := false, narrowed := true }
def OptimizeCostsUptoSaid : Prop := optimizeCostsUptoRow.holds Try.pinned (OpenSpec.upto optimizeCostsSpec)

/-- 'evergreenlaw57.OptimizeWalks', WHERE WHAT IT READS IS OF BULK AT MOST 1048576: true; the input reads as it did. -/
def optimizeWalksUptoRow : OpenClaim := { program := "ytniefnjcimempaa", sum := "905181f0f387bd6dc878f25241b135171ae22babf042b651bdbd0e5d002dc4c0", func := "evergreen/evergreenlaw57.OptimizeWalks", spec := "optimizeWalks", inPlace := ["internal/bytealg.CountString", "internal/bytealg.IndexByteString", "internal/bytealg.IndexString", "slices.overlaps[evergreen/plan.Step]"], unfollowed := true, recurses := true, named := ["internal/bytealg.MaxLen"], plainKeys := false, apart := false, narrowed := true }
def OptimizeWalksUptoSaid : Prop := optimizeWalksUptoRow.holds Try.pinned (OpenSpec.upto optimizeWalksSpec)

end Rows
end Go.Proofs.Ytniefnjcimempaa

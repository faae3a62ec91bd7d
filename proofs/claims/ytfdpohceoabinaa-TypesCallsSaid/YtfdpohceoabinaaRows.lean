/-
  No cell of these rows narrows 'for every input' (looked for: loops, veiled, ifaces, maps, wideKeys, modest, calm, conditions, laid).
  DERIVED. THE GIVEN ROWS OF THIS SEAT. 3 by the template 'for every input the law returns true; each argument reads behind the call as it read before'; 0 by the template 'total and deterministic' (their statements: YtfdpohceoabinaaTotals.lean).
  GIVEN WITH THE SEED: the statements are not yours to turn. If you find one false, say at which input.
  Laid BY PROGRAM, IN A SANDBOX (cutbox-rows.mjs): the forced cells as the released guide's own fill.sh prints them over the translation d4229f2aecd15af8… (all of the seat's roots in one cut). By AI agents, Wed Nov 11 2026. No macro, syntax, notation, axiom, sorry.
-/
import Derived.Test.YtfdpohceoabinaaChecked
import GoSem.Claim
import GoSem.ClaimJoined
import GoSem.ClaimMapViews
import Derived.JoinedTies
import Derived.KernelRfl
namespace Go.Proofs.Ytfdpohceoabinaa
/- THE CELL 'sum', in the pinned program and in every row, IS THE sha256 OF THE DUMP (.gsa) THAT YtfdpohceoabinaaProg.lean LOADS. Nothing in Lean hashes anything: it is a label: what it is worth is what the hold of that sum in a sandbox is worth. -/
noncomputable def Try.pinned : Pinned := { name := "ytfdpohceoabinaa", sum := "d4229f2aecd15af882f5f2a6cb8af98faebd436580c194b5d74729417cd638bb", checked := Try.checked }
namespace Rows
def none {H : Type} : Left H := { results := [], args := [] }

/-- 'evergreenlaw55.TypesOverloads': WHATEVER THE INPUT: true; the input reads as it did. -/
def typesOverloadsSpec : ChangeSpec := { name := "typesOverloads", fn := fun _ => fun
  | [d1, d2] => { results := [.lit (.bool true)], args := [d1, d2] }
  | _ => none }
def typesOverloadsRow : OpenClaim := { program := "ytfdpohceoabinaa", sum := "d4229f2aecd15af882f5f2a6cb8af98faebd436580c194b5d74729417cd638bb", func := "evergreen/evergreenlaw55.TypesOverloads", spec := "typesOverloads", inPlace := ["internal/bytealg.CountString", "internal/bytealg.IndexByteString", "internal/bytealg.IndexString"], unfollowed := true, recurses := true, named := ["internal/bytealg.MaxLen"], apart := false }
def TypesOverloadsSaid : Prop := typesOverloadsRow.holds Try.pinned (OpenSpec.ofChange typesOverloadsSpec)

/-- ITS FALSE NEIGHBOUR: 'it returns false'. Refute it at one input. -/
def typesOverloadsWrong : ChangeSpec := { name := "typesOverloads", fn := fun _ => fun
  | [d1, d2] => { results := [.lit (.bool false)], args := [d1, d2] }
  | _ => none }
def TypesOverloadsWrongFalsely : Prop := typesOverloadsRow.holds Try.pinned (OpenSpec.ofChange typesOverloadsWrong)

/-- 'evergreenlaw55.TypesPatterns': WHATEVER THE INPUT: true; the input reads as it did. -/
def typesPatternsSpec : ChangeSpec := { name := "typesPatterns", fn := fun _ => fun
  | [d] => { results := [.lit (.bool true)], args := [d] }
  | _ => none }
def typesPatternsRow : OpenClaim := { program := "ytfdpohceoabinaa", sum := "d4229f2aecd15af882f5f2a6cb8af98faebd436580c194b5d74729417cd638bb", func := "evergreen/evergreenlaw55.TypesPatterns", spec := "typesPatterns", inPlace := ["internal/bytealg.CountString", "internal/bytealg.IndexByteString", "internal/bytealg.IndexString"], unfollowed := true, recurses := true, named := ["internal/bytealg.MaxLen"], apart := false }
def TypesPatternsSaid : Prop := typesPatternsRow.holds Try.pinned (OpenSpec.ofChange typesPatternsSpec)

/-- ITS FALSE NEIGHBOUR: 'it returns false'. Refute it at one input. -/
def typesPatternsWrong : ChangeSpec := { name := "typesPatterns", fn := fun _ => fun
  | [d] => { results := [.lit (.bool false)], args := [d] }
  | _ => none }
def TypesPatternsWrongFalsely : Prop := typesPatternsRow.holds Try.pinned (OpenSpec.ofChange typesPatternsWrong)

/-- 'evergreenlaw55.TypesCalls': WHATEVER THE INPUT: true; the input reads as it did. -/
def typesCallsSpec : ChangeSpec := { name := "typesCalls", fn := fun _ => fun
  | [d1, d2, d3] => { results := [.lit (.bool true)], args := [d1, d2, d3] }
  | _ => none }
def typesCallsRow : OpenClaim := { program := "ytfdpohceoabinaa", sum := "d4229f2aecd15af882f5f2a6cb8af98faebd436580c194b5d74729417cd638bb", func := "evergreen/evergreenlaw55.TypesCalls", spec := "typesCalls", inPlace := ["internal/bytealg.CountString", "internal/bytealg.IndexByteString", "internal/bytealg.IndexString"], unfollowed := true, recurses := true, named := ["internal/bytealg.MaxLen"], apart := false }
def TypesCallsSaid : Prop := typesCallsRow.holds Try.pinned (OpenSpec.ofChange typesCallsSpec)

/-- ITS FALSE NEIGHBOUR: 'it returns false'. Refute it at one input. -/
def typesCallsWrong : ChangeSpec := { name := "typesCalls", fn := fun _ => fun
  | [d1, d2, d3] => { results := [.lit (.bool false)], args := [d1, d2, d3] }
  | _ => none }
def TypesCallsWrongFalsely : Prop := typesCallsRow.holds Try.pinned (OpenSpec.ofChange typesCallsWrong)

/- THE SECOND FORM. 'bulk': how many values and letters a reading holds, each counted each time it is reached (what is shared counts as often as it is met; a slice's spare places count too). A statement '..UptoSaid' is the law's where the arguments, and the package variables that the reading takes, are together of bulk at most 1048576: NARROWER than '..Said'. Prove '..Said' where nothing that the law and all that it calls make is longer than what came in: it says more and counts as full. Else prove '..UptoSaid'. A law counts once. -/
mutual
def uptoBulk {H : Type} : DataW H → Nat
  | .lit (.string bytes) => bytes.length + 1
  | .lit _ => 1
  | .nil => 1
  | .ptr d => uptoBulk d + 1
  | .slice elems spare => uptoBulkAll elems + uptoBulkAll spare + 1
  | .agg parts => uptoBulkAll parts + 1
  | .iface _ d => uptoBulk d + 1
  | .map entries => uptoBulkEntries entries + 1
  | .held _ => 1
def uptoBulkAll {H : Type} : List (DataW H) → Nat
  | [] => 0
  | d :: r => uptoBulk d + uptoBulkAll r
def uptoBulkEntries {H : Type} : List (Lit × DataW H) → Nat
  | [] => 0
  | x :: r => uptoBulkEntry x + uptoBulkEntries r
def uptoBulkEntry {H : Type} : Lit × DataW H → Nat
  | (.string bytes, d) => bytes.length + uptoBulk d + 1
  | (_, d) => uptoBulk d + 1
 end
def uptoSmall : (H : Type) → List (DataW H) → Bool := fun _ ds => decide (uptoBulkAll ds ≤ 1048576)
def OpenSpec.upto (s : _root_.Go.ChangeSpec) : _root_.Go.OpenSpec := { _root_.Go.OpenSpec.ofChange s with cond := some uptoSmall }

/-- 'evergreenlaw55.TypesOverloads', WHERE WHAT IT READS IS OF BULK AT MOST 1048576: true; the input reads as it did. -/
def typesOverloadsUptoRow : OpenClaim := { program := "ytfdpohceoabinaa", sum := "d4229f2aecd15af882f5f2a6cb8af98faebd436580c194b5d74729417cd638bb", func := "evergreen/evergreenlaw55.TypesOverloads", spec := "typesOverloads", inPlace := ["internal/bytealg.CountString", "internal/bytealg.IndexByteString", "internal/bytealg.IndexString"], unfollowed := true, recurses := true, named := ["internal/bytealg.MaxLen"], apart := false, narrowed := true }
def TypesOverloadsUptoSaid : Prop := typesOverloadsUptoRow.holds Try.pinned (OpenSpec.upto typesOverloadsSpec)

/-- 'evergreenlaw55.TypesPatterns', WHERE WHAT IT READS IS OF BULK AT MOST 1048576: true; the input reads as it did. -/
def typesPatternsUptoRow : OpenClaim := { program := "ytfdpohceoabinaa", sum := "d4229f2aecd15af882f5f2a6cb8af98faebd436580c194b5d74729417cd638bb", func := "evergreen/evergreenlaw55.TypesPatterns", spec := "typesPatterns", inPlace := ["internal/bytealg.CountString", "internal/bytealg.IndexByteString", "internal/bytealg.IndexString"], unfollowed := true, recurses := true, named := ["internal/bytealg.MaxLen"], apart := false, narrowed := true }
def TypesPatternsUptoSaid : Prop := typesPatternsUptoRow.holds Try.pinned (OpenSpec.upto typesPatternsSpec)

/-- 'evergreenlaw55.TypesCalls', WHERE WHAT IT READS IS OF BULK AT MOST 1048576: true; the input reads as it did. -/
def typesCallsUptoRow : OpenClaim := { program := "ytfdpohceoabinaa", sum := "d4229f2aecd15af882f5f2a6cb8af98faebd436580c194b5d74729417cd638bb", func := "evergreen/evergreenlaw55.TypesCalls", spec := "typesCalls", inPlace := ["internal/bytealg.CountString", "internal/bytealg.IndexByteString", "internal/bytealg.IndexString"], unfollowed := true, recurses := true, named := ["internal/bytealg.MaxLen"], apart := false, narrowed := true }
def TypesCallsUptoSaid : Prop := typesCallsUptoRow.holds Try.pinned (OpenSpec.upto typesCallsSpec)

end Rows
end Go.Proofs.Ytfdpohceoabinaa

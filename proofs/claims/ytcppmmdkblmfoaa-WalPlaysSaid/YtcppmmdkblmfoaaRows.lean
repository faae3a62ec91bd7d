/-
  No cell of these rows narrows 'for every input' (looked for: loops, veiled, ifaces, maps, wideKeys, modest, calm, conditions, laid).
  DERIVED. THE GIVEN ROWS OF THIS SEAT. 7 by the template 'for every input the law returns true; each argument reads behind the call as it read before'; 0 by the template 'total and deterministic' (their statements: YtcppmmdkblmfoaaTotals.lean).
  GIVEN WITH THE SEED: the statements are not yours to turn. If you find one false, say at which input.
  Laid BY PROGRAM, IN A SANDBOX (cutbox-rows.mjs): the forced cells as the released guide's own fill.sh prints them over the translation 66bd5d14f2523c89… (all of the seat's roots in one cut). By AI agents, Wed Nov 11 2026. No macro, syntax, notation, axiom, sorry.
-/
import Derived.Test.YtcppmmdkblmfoaaChecked
import GoSem.Claim
import GoSem.ClaimJoined
import GoSem.ClaimMapViews
import Derived.JoinedTies
import Derived.KernelRfl
namespace Go.Proofs.Ytcppmmdkblmfoaa
/- THE CELL 'sum', in the pinned program and in every row, IS THE sha256 OF THE DUMP (.gsa) THAT YtcppmmdkblmfoaaProg.lean LOADS. Nothing in Lean hashes anything: it is a label: what it is worth is what the hold of that sum in a sandbox is worth. -/
noncomputable def Try.pinned : Pinned := { name := "ytcppmmdkblmfoaa", sum := "66bd5d14f2523c89d38ff53cd85b1bbc31368527f8eb116949ca8db94bec6e2f", checked := Try.checked }
namespace Rows
def none {H : Type} : Left H := { results := [], args := [] }

/-- 'evergreenlaw48.WalSums': WHATEVER THE INPUT: true; the input reads as it did. -/
def walSumsSpec : ChangeSpec := { name := "walSums", fn := fun _ => fun
  | [d1, d2] => { results := [.lit (.bool true)], args := [d1, d2] }
  | _ => none }
def walSumsRow : OpenClaim := { program := "ytcppmmdkblmfoaa", sum := "66bd5d14f2523c89d38ff53cd85b1bbc31368527f8eb116949ca8db94bec6e2f", func := "evergreen/evergreenlaw48.WalSums", spec := "walSums", apart := false }
def WalSumsSaid : Prop := walSumsRow.holds Try.pinned (OpenSpec.ofChange walSumsSpec)

/-- ITS FALSE NEIGHBOUR: 'it returns false'. Refute it at one input. -/
def walSumsWrong : ChangeSpec := { name := "walSums", fn := fun _ => fun
  | [d1, d2] => { results := [.lit (.bool false)], args := [d1, d2] }
  | _ => none }
def WalSumsWrongFalsely : Prop := walSumsRow.holds Try.pinned (OpenSpec.ofChange walSumsWrong)

/-- 'evergreenlaw48.WalFrames': WHATEVER THE INPUT: true; the input reads as it did. -/
def walFramesSpec : ChangeSpec := { name := "walFrames", fn := fun _ => fun
  | [d1, d2] => { results := [.lit (.bool true)], args := [d1, d2] }
  | _ => none }
def walFramesRow : OpenClaim := { program := "ytcppmmdkblmfoaa", sum := "66bd5d14f2523c89d38ff53cd85b1bbc31368527f8eb116949ca8db94bec6e2f", func := "evergreen/evergreenlaw48.WalFrames", spec := "walFrames", apart := false }
def WalFramesSaid : Prop := walFramesRow.holds Try.pinned (OpenSpec.ofChange walFramesSpec)

/-- ITS FALSE NEIGHBOUR: 'it returns false'. Refute it at one input. -/
def walFramesWrong : ChangeSpec := { name := "walFrames", fn := fun _ => fun
  | [d1, d2] => { results := [.lit (.bool false)], args := [d1, d2] }
  | _ => none }
def WalFramesWrongFalsely : Prop := walFramesRow.holds Try.pinned (OpenSpec.ofChange walFramesWrong)

/-- 'evergreenlaw48.WalBits': WHATEVER THE INPUT: true; the input reads as it did. -/
def walBitsSpec : ChangeSpec := { name := "walBits", fn := fun _ => fun
  | [d1, d2, d3] => { results := [.lit (.bool true)], args := [d1, d2, d3] }
  | _ => none }
def walBitsRow : OpenClaim := { program := "ytcppmmdkblmfoaa", sum := "66bd5d14f2523c89d38ff53cd85b1bbc31368527f8eb116949ca8db94bec6e2f", func := "evergreen/evergreenlaw48.WalBits", spec := "walBits", apart := false }
def WalBitsSaid : Prop := walBitsRow.holds Try.pinned (OpenSpec.ofChange walBitsSpec)

/-- ITS FALSE NEIGHBOUR: 'it returns false'. Refute it at one input. -/
def walBitsWrong : ChangeSpec := { name := "walBits", fn := fun _ => fun
  | [d1, d2, d3] => { results := [.lit (.bool false)], args := [d1, d2, d3] }
  | _ => none }
def WalBitsWrongFalsely : Prop := walBitsRow.holds Try.pinned (OpenSpec.ofChange walBitsWrong)

/-- 'evergreenlaw48.WalOpens': WHATEVER THE INPUT: true; the input reads as it did. -/
def walOpensSpec : ChangeSpec := { name := "walOpens", fn := fun _ => fun
  | [d1, d2] => { results := [.lit (.bool true)], args := [d1, d2] }
  | _ => none }
def walOpensRow : OpenClaim := { program := "ytcppmmdkblmfoaa", sum := "66bd5d14f2523c89d38ff53cd85b1bbc31368527f8eb116949ca8db94bec6e2f", func := "evergreen/evergreenlaw48.WalOpens", spec := "walOpens", apart := false }
def WalOpensSaid : Prop := walOpensRow.holds Try.pinned (OpenSpec.ofChange walOpensSpec)

/-- ITS FALSE NEIGHBOUR: 'it returns false'. Refute it at one input. -/
def walOpensWrong : ChangeSpec := { name := "walOpens", fn := fun _ => fun
  | [d1, d2] => { results := [.lit (.bool false)], args := [d1, d2] }
  | _ => none }
def WalOpensWrongFalsely : Prop := walOpensRow.holds Try.pinned (OpenSpec.ofChange walOpensWrong)

/-- 'evergreenlaw48.WalForms': WHATEVER THE INPUT: true; the input reads as it did. -/
def walFormsSpec : ChangeSpec := { name := "walForms", fn := fun _ => fun
  | [d1, d2] => { results := [.lit (.bool true)], args := [d1, d2] }
  | _ => none }
def walFormsRow : OpenClaim := { program := "ytcppmmdkblmfoaa", sum := "66bd5d14f2523c89d38ff53cd85b1bbc31368527f8eb116949ca8db94bec6e2f", func := "evergreen/evergreenlaw48.WalForms", spec := "walForms", apart := false }
def WalFormsSaid : Prop := walFormsRow.holds Try.pinned (OpenSpec.ofChange walFormsSpec)

/-- ITS FALSE NEIGHBOUR: 'it returns false'. Refute it at one input. -/
def walFormsWrong : ChangeSpec := { name := "walForms", fn := fun _ => fun
  | [d1, d2] => { results := [.lit (.bool false)], args := [d1, d2] }
  | _ => none }
def WalFormsWrongFalsely : Prop := walFormsRow.holds Try.pinned (OpenSpec.ofChange walFormsWrong)

/-- 'evergreenlaw48.WalKeeps': WHATEVER THE INPUT: true; the input reads as it did. -/
def walKeepsSpec : ChangeSpec := { name := "walKeeps", fn := fun _ => fun
  | [d1, d2, d3] => { results := [.lit (.bool true)], args := [d1, d2, d3] }
  | _ => none }
def walKeepsRow : OpenClaim := { program := "ytcppmmdkblmfoaa", sum := "66bd5d14f2523c89d38ff53cd85b1bbc31368527f8eb116949ca8db94bec6e2f", func := "evergreen/evergreenlaw48.WalKeeps", spec := "walKeeps", recurses := true, apart := false }
def WalKeepsSaid : Prop := walKeepsRow.holds Try.pinned (OpenSpec.ofChange walKeepsSpec)

/-- ITS FALSE NEIGHBOUR: 'it returns false'. Refute it at one input. -/
def walKeepsWrong : ChangeSpec := { name := "walKeeps", fn := fun _ => fun
  | [d1, d2, d3] => { results := [.lit (.bool false)], args := [d1, d2, d3] }
  | _ => none }
def WalKeepsWrongFalsely : Prop := walKeepsRow.holds Try.pinned (OpenSpec.ofChange walKeepsWrong)

/-- 'evergreenlaw48.WalPlays': WHATEVER THE INPUT: true; the input reads as it did. -/
def walPlaysSpec : ChangeSpec := { name := "walPlays", fn := fun _ => fun
  | [d] => { results := [.lit (.bool true)], args := [d] }
  | _ => none }
def walPlaysRow : OpenClaim := { program := "ytcppmmdkblmfoaa", sum := "66bd5d14f2523c89d38ff53cd85b1bbc31368527f8eb116949ca8db94bec6e2f", func := "evergreen/evergreenlaw48.WalPlays", spec := "walPlays", recurses := true, apart := false }
def WalPlaysSaid : Prop := walPlaysRow.holds Try.pinned (OpenSpec.ofChange walPlaysSpec)

/-- ITS FALSE NEIGHBOUR: 'it returns false'. Refute it at one input. -/
def walPlaysWrong : ChangeSpec := { name := "walPlays", fn := fun _ => fun
  | [d] => { results := [.lit (.bool false)], args := [d] }
  | _ => none }
def WalPlaysWrongFalsely : Prop := walPlaysRow.holds Try.pinned (OpenSpec.ofChange walPlaysWrong)

/- THE SECOND FORM. 'bulk': how many values and letters a reading holds, each counted each time it is reached (what is shared counts as often as it is met; a slice's spare places count too). A statement '..UptoSaid' is the law's where the arguments, and the package variables that the reading takes, are together of bulk at most 1048576: NARROWER than '..Said'. Prove '..Said' where nothing that the law and all that it calls make is longer than what came in: it says more and counts as full. Else prove '..UptoSaid'. A law counts once. -/
mutual
def uptoBulk {H : Type} : DataW H → Nat
  | .lit (.string bytes) => bytes.length + 1
  | .lit _ => 1
  | .nil => 1
  | .ptr d => uptoBulk d + 1
  | .slice elems spare => uptoBulkAll elems + uptoBulkAll spare + 1
  | .agg parts => uptoBulkAll parts + 1
  | .iface _ d => uptoBulk d + 1
  | .map entries => uptoBulkEntries entries + 1
  | .held _ => 1
def uptoBulkAll {H : Type} : List (DataW H) → Nat
  | [] => 0
  | d :: r => uptoBulk d + uptoBulkAll r
def uptoBulkEntries {H : Type} : List (Lit × DataW H) → Nat
  | [] => 0
  | x :: r => uptoBulkEntry x + uptoBulkEntries r
def uptoBulkEntry {H : Type} : Lit × DataW H → Nat
  | (.string bytes, d) => bytes.length + uptoBulk d + 1
  | (_, d) => uptoBulk d + 1
 end
def uptoSmall : (H : Type) → List (DataW H) → Bool := fun _ ds => decide (uptoBulkAll ds ≤ 1048576)
def OpenSpec.upto (s : _root_.Go.ChangeSpec) : _root_.Go.OpenSpec := { _root_.Go.OpenSpec.ofChange s with cond := some uptoSmall }

/-- 'evergreenlaw48.WalSums', WHERE WHAT IT READS IS OF BULK AT MOST 1048576: true; the input reads as it did. -/
def walSumsUptoRow : OpenClaim := { program := "ytcppmmdkblmfoaa", sum := "66bd5d14f2523c89d38ff53cd85b1bbc31368527f8eb116949ca8db94bec6e2f", func := "evergreen/evergreenlaw48.WalSums", spec := "walSums", apart := false, narrowed := true }
def WalSumsUptoSaid : Prop := walSumsUptoRow.holds Try.pinned (OpenSpec.upto walSumsSpec)

/-- 'evergreenlaw48.WalFrames', WHERE WHAT IT READS IS OF BULK AT MOST 1048576: true; the input reads as it did. -/
def walFramesUptoRow : OpenClaim := { program := "ytcppmmdkblmfoaa", sum := "66bd5d14f2523c89d38ff53cd85b1bbc31368527f8eb116949ca8db94bec6e2f", func := "evergreen/evergreenlaw48.WalFrames", spec := "walFrames", apart := false, narrowed := true }
def WalFramesUptoSaid : Prop := walFramesUptoRow.holds Try.pinned (OpenSpec.upto walFramesSpec)

/-- 'evergreenlaw48.WalBits', WHERE WHAT IT READS IS OF BULK AT MOST 1048576: true; the input reads as it did. -/
def walBitsUptoRow : OpenClaim := { program := "ytcppmmdkblmfoaa", sum := "66bd5d14f2523c89d38ff53cd85b1bbc31368527f8eb116949ca8db94bec6e2f", func := "evergreen/evergreenlaw48.WalBits", spec := "walBits", apart := false, narrowed := true }
def WalBitsUptoSaid : Prop := walBitsUptoRow.holds Try.pinned (OpenSpec.upto walBitsSpec)

/-- 'evergreenlaw48.WalOpens', WHERE WHAT IT READS IS OF BULK AT MOST 1048576: true; the input reads as it did. -/
def walOpensUptoRow : OpenClaim := { program := "ytcppmmdkblmfoaa", sum := "66bd5d14f2523c89d38ff53cd85b1bbc31368527f8eb116949ca8db94bec6e2f", func := "evergreen/evergreenlaw48.WalOpens", spec := "walOpens", apart := false, narrowed := true }
def WalOpensUptoSaid : Prop := walOpensUptoRow.holds Try.pinned (OpenSpec.upto walOpensSpec)

/-- 'evergreenlaw48.WalForms', WHERE WHAT IT READS IS OF BULK AT MOST 1048576: true; the input reads as it did. -/
def walFormsUptoRow : OpenClaim := { program := "ytcppmmdkblmfoaa", sum := "66bd5d14f2523c89d38ff53cd85b1bbc31368527f8eb116949ca8db94bec6e2f", func := "evergreen/evergreenlaw48.WalForms", spec := "walForms", apart := false, narrowed := true }
def WalFormsUptoSaid : Prop := walFormsUptoRow.holds Try.pinned (OpenSpec.upto walFormsSpec)

/-- 'evergreenlaw48.WalKeeps', WHERE WHAT IT READS IS OF BULK AT MOST 1048576: true; the input reads as it did. -/
def walKeepsUptoRow : OpenClaim := { program := "ytcppmmdkblmfoaa", sum := "66bd5d14f2523c89d38ff53cd85b1bbc31368527f8eb116949ca8db94bec6e2f", func := "evergreen/evergreenlaw48.WalKeeps", spec := "walKeeps", recurses := true, apart := false, narrowed := true }
def WalKeepsUptoSaid : Prop := walKeepsUptoRow.holds Try.pinned (OpenSpec.upto walKeepsSpec)

/-- 'evergreenlaw48.WalPlays', WHERE WHAT IT READS IS OF BULK AT MOST 1048576: true; the input reads as it did. -/
def walPlaysUptoRow : OpenClaim := { program := "ytcppmmdkblmfoaa", sum := "66bd5d14f2523c89d38ff53cd85b1bbc31368527f8eb116949ca8db94bec6e2f", func := "evergreen/evergreenlaw48.WalPlays", spec := "walPlays", recurses := true, apart := false, narrowed := true }
def WalPlaysUptoSaid : Prop := walPlaysUptoRow.holds Try.pinned (OpenSpec.upto walPlaysSpec)

end Rows
end Go.Proofs.Ytcppmmdkblmfoaa

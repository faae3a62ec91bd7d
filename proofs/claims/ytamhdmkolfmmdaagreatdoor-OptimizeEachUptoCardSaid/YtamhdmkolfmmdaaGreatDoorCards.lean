/-
  DERIVED. GIVEN WITH THE SEED: THE CARDS: each row of YtamhdmkolfmmdaaGreatDoorRows.lean that lists a variable, with what it lists TIED to the program's text (the seventh form; the later family's looks); each row that meets fmt, with fmt's text TOLD by the authors' own Lean function (tested against real Go, not proved from fmt's source: count such statements apart). THE CARD IS WHAT COUNTS. Prove the row's statement (the work); the ties are given (YtamhdmkolfmmdaaGreatDoorTie.lean); close each card by the builder's one call (the guide's Derived/Test/ToyasCard.lean, 'card_holds'). Laid BY PROGRAM, IN A SANDBOX (cutbox-door.mjs). By AI agents, Wed Nov 11 2026. No macro, syntax, notation, axiom, sorry.
-/
import Derived.Test.YtamhdmkolfmmdaaGreatDoorRows
import GoSem.ClaimSeven
namespace Go.Proofs.YtamhdmkolfmmdaaGreatDoor
namespace Rows

/-- THE TIED CARD OF 'evergreenlaw57.OptimizeWhole'. -/
def optimizeWholeCard : Claim7 := { stood := { row := optimizeWholeRow, standIns := [], harness := (true, "87c1e423abcc1479a7d90b0a34e845ffc5d1aacfc9595f4607b606ff42a6193d"), looks := true }, kinds := [], alts := [], laidByText := true, laidKinds := [.data], laidTests := true, laidLooks := .later }
def OptimizeWholeCardSaid : Prop := Claim7.holds Tryz.pinned (.plain (OpenSpec.ofChange optimizeWholeSpec)) optimizeWholeCard

/-- THE TIED CARD OF 'evergreenlaw57.OptimizeKeeps'. -/
def optimizeKeepsCard : Claim7 := { stood := { row := optimizeKeepsRow, standIns := [], harness := (true, "87c1e423abcc1479a7d90b0a34e845ffc5d1aacfc9595f4607b606ff42a6193d"), looks := true }, kinds := [], alts := [], laidByText := true, laidKinds := [.data], laidTests := true, laidLooks := .later }
def OptimizeKeepsCardSaid : Prop := Claim7.holds Tryz.pinned (.plain (OpenSpec.ofChange optimizeKeepsSpec)) optimizeKeepsCard

/-- THE TIED CARD OF 'evergreenlaw56.PlanParts'. -/
def planPartsCard : Claim7 := { stood := { row := planPartsRow, standIns := [], harness := (true, "87c1e423abcc1479a7d90b0a34e845ffc5d1aacfc9595f4607b606ff42a6193d"), looks := true }, kinds := [], alts := [], laidByText := true, laidKinds := [.data, .data, .data], laidTests := true, laidLooks := .later }
def PlanPartsCardSaid : Prop := Claim7.holds Tryz.pinned (.plain (OpenSpec.ofChange planPartsSpec)) planPartsCard

/-- THE TIED CARD OF 'evergreenlaw57.OptimizeSteps'. -/
def optimizeStepsCard : Claim7 := { stood := { row := optimizeStepsRow, standIns := [], harness := (true, "87c1e423abcc1479a7d90b0a34e845ffc5d1aacfc9595f4607b606ff42a6193d"), looks := true }, kinds := [], alts := [], laidByText := true, laidKinds := [.data], laidTests := true, laidLooks := .later }
def OptimizeStepsCardSaid : Prop := Claim7.holds Tryz.pinned (.plain (OpenSpec.ofChange optimizeStepsSpec)) optimizeStepsCard

/-- THE TIED CARD OF 'evergreenlaw57.OptimizeEach'. -/
def optimizeEachCard : Claim7 := { stood := { row := optimizeEachRow, standIns := [], harness := (true, "87c1e423abcc1479a7d90b0a34e845ffc5d1aacfc9595f4607b606ff42a6193d"), looks := true }, kinds := [], alts := [], laidByText := true, laidKinds := [.data], laidTests := true, laidLooks := .later }
def OptimizeEachCardSaid : Prop := Claim7.holds Tryz.pinned (.plain (OpenSpec.ofChange optimizeEachSpec)) optimizeEachCard

/-- THE SECOND FORM's CARD OF 'evergreenlaw57.OptimizeWhole'. -/
def optimizeWholeUptoCard : Claim7 := { stood := { row := optimizeWholeUptoRow, standIns := [], harness := (true, "87c1e423abcc1479a7d90b0a34e845ffc5d1aacfc9595f4607b606ff42a6193d"), looks := true }, kinds := [], alts := [], laidByText := true, laidKinds := [.data], laidTests := true, laidLooks := .later }
def OptimizeWholeUptoCardSaid : Prop := Claim7.holds Tryz.pinned (.plain (OpenSpec.upto optimizeWholeSpec)) optimizeWholeUptoCard

/-- THE SECOND FORM's CARD OF 'evergreenlaw57.OptimizeKeeps'. -/
def optimizeKeepsUptoCard : Claim7 := { stood := { row := optimizeKeepsUptoRow, standIns := [], harness := (true, "87c1e423abcc1479a7d90b0a34e845ffc5d1aacfc9595f4607b606ff42a6193d"), looks := true }, kinds := [], alts := [], laidByText := true, laidKinds := [.data], laidTests := true, laidLooks := .later }
def OptimizeKeepsUptoCardSaid : Prop := Claim7.holds Tryz.pinned (.plain (OpenSpec.upto optimizeKeepsSpec)) optimizeKeepsUptoCard

/-- THE SECOND FORM's CARD OF 'evergreenlaw56.PlanParts'. -/
def planPartsUptoCard : Claim7 := { stood := { row := planPartsUptoRow, standIns := [], harness := (true, "87c1e423abcc1479a7d90b0a34e845ffc5d1aacfc9595f4607b606ff42a6193d"), looks := true }, kinds := [], alts := [], laidByText := true, laidKinds := [.data, .data, .data], laidTests := true, laidLooks := .later }
def PlanPartsUptoCardSaid : Prop := Claim7.holds Tryz.pinned (.plain (OpenSpec.upto planPartsSpec)) planPartsUptoCard

/-- THE SECOND FORM's CARD OF 'evergreenlaw57.OptimizeSteps'. -/
def optimizeStepsUptoCard : Claim7 := { stood := { row := optimizeStepsUptoRow, standIns := [], harness := (true, "87c1e423abcc1479a7d90b0a34e845ffc5d1aacfc9595f4607b606ff42a6193d"), looks := true }, kinds := [], alts := [], laidByText := true, laidKinds := [.data], laidTests := true, laidLooks := .later }
def OptimizeStepsUptoCardSaid : Prop := Claim7.holds Tryz.pinned (.plain (OpenSpec.upto optimizeStepsSpec)) optimizeStepsUptoCard

/-- THE SECOND FORM's CARD OF 'evergreenlaw57.OptimizeEach'. -/
def optimizeEachUptoCard : Claim7 := { stood := { row := optimizeEachUptoRow, standIns := [], harness := (true, "87c1e423abcc1479a7d90b0a34e845ffc5d1aacfc9595f4607b606ff42a6193d"), looks := true }, kinds := [], alts := [], laidByText := true, laidKinds := [.data], laidTests := true, laidLooks := .later }
def OptimizeEachUptoCardSaid : Prop := Claim7.holds Tryz.pinned (.plain (OpenSpec.upto optimizeEachSpec)) optimizeEachUptoCard
end Rows
end Go.Proofs.YtamhdmkolfmmdaaGreatDoor

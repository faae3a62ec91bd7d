/-
  DERIVED. GIVEN WITH THE SEED: THE CARDS: each row of YtoegklpomlhneaaGreatDoorRows.lean that lists a variable, with what it lists TIED to the program's text (the seventh form; the later family's looks); each row that meets fmt, with fmt's text TOLD by the authors' own Lean function (tested against real Go, not proved from fmt's source: count such statements apart). THE CARD IS WHAT COUNTS. Prove the row's statement (the work); the ties are given (YtoegklpomlhneaaGreatDoorTie.lean); close each card by the builder's one call (the guide's Derived/Test/ToyasCard.lean, 'card_holds'). Laid BY PROGRAM, IN A SANDBOX (cutbox-door.mjs). By AI agents, Wed Nov 11 2026. No macro, syntax, notation, axiom, sorry.
-/
import Derived.Test.YtoegklpomlhneaaGreatDoorRows
import GoSem.ClaimSeven
namespace Go.Proofs.YtoegklpomlhneaaGreatDoor
namespace Rows

/-- THE TIED CARD OF 'evergreenlaw56.PlanParts'. -/
def planPartsCard : Claim7 := { stood := { row := planPartsRow, standIns := [], harness := (true, "ac82cbe7b029126d7536dccbe278e9618039fde7726d7b55b0d34e9a00000d48"), looks := true }, kinds := [], alts := [], laidByText := true, laidKinds := [.data, .data, .data], laidTests := true, laidLooks := .later }
def PlanPartsCardSaid : Prop := Claim7.holds Tryz.pinned (.plain (OpenSpec.ofChange planPartsSpec)) planPartsCard

/-- THE SECOND FORM's CARD OF 'evergreenlaw56.PlanParts'. -/
def planPartsUptoCard : Claim7 := { stood := { row := planPartsUptoRow, standIns := [], harness := (true, "ac82cbe7b029126d7536dccbe278e9618039fde7726d7b55b0d34e9a00000d48"), looks := true }, kinds := [], alts := [], laidByText := true, laidKinds := [.data, .data, .data], laidTests := true, laidLooks := .later }
def PlanPartsUptoCardSaid : Prop := Claim7.holds Tryz.pinned (.plain (OpenSpec.upto planPartsSpec)) planPartsUptoCard
end Rows
end Go.Proofs.YtoegklpomlhneaaGreatDoor

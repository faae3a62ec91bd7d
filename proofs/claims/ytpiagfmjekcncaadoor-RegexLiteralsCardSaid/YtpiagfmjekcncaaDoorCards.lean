/-
  DERIVED. GIVEN WITH THE SEED: THE CARDS: each row of YtpiagfmjekcncaaDoorRows.lean that lists a variable, with what it lists TIED to the program's text (the seventh form; the later family's looks); each row that meets fmt, with fmt's text TOLD by the authors' own Lean function (tested against real Go, not proved from fmt's source: count such statements apart). THE CARD IS WHAT COUNTS. Prove the row's statement (the work); the ties are given (YtpiagfmjekcncaaDoorTie.lean); close each card by the builder's one call (the guide's Derived/Test/ToyasCard.lean, 'card_holds'). Laid BY PROGRAM, IN A SANDBOX (cutbox-door.mjs). By AI agents, Wed Nov 11 2026. No macro, syntax, notation, axiom, sorry.
-/
import Derived.Test.YtpiagfmjekcncaaDoorRows
import GoSem.ClaimSeven
namespace Go.Proofs.YtpiagfmjekcncaaDoor
namespace Rows

/-- THE TIED CARD OF 'evergreenlaw30.RegexParses'. -/
def regexParsesCard : Claim7 := { stood := { row := regexParsesRow, standIns := [], harness := (true, "50bf666de8753efe9a45d143c1c12be91efc81664957d3462a9efe81ecd8627a"), looks := true }, kinds := [], alts := [], laidByText := true, laidKinds := [.data], laidTests := true, laidLooks := .later }
def RegexParsesCardSaid : Prop := Claim7.holds Tryd.pinned (.plain (OpenSpec.ofChange regexParsesSpec)) regexParsesCard

/-- THE TIED CARD OF 'evergreenlaw30.RegexLiterals'. -/
def regexLiteralsCard : Claim7 := { stood := { row := regexLiteralsRow, standIns := [], harness := (true, "50bf666de8753efe9a45d143c1c12be91efc81664957d3462a9efe81ecd8627a"), looks := true }, kinds := [], alts := [], laidByText := true, laidKinds := [.data], laidTests := true, laidLooks := .later }
def RegexLiteralsCardSaid : Prop := Claim7.holds Tryd.pinned (.plain (OpenSpec.ofChange regexLiteralsSpec)) regexLiteralsCard

/-- THE SECOND FORM's CARD OF 'evergreenlaw30.RegexParses'. -/
def regexParsesUptoCard : Claim7 := { stood := { row := regexParsesUptoRow, standIns := [], harness := (true, "50bf666de8753efe9a45d143c1c12be91efc81664957d3462a9efe81ecd8627a"), looks := true }, kinds := [], alts := [], laidByText := true, laidKinds := [.data], laidTests := true, laidLooks := .later }
def RegexParsesUptoCardSaid : Prop := Claim7.holds Tryd.pinned (.plain (OpenSpec.upto regexParsesSpec)) regexParsesUptoCard

/-- THE SECOND FORM's CARD OF 'evergreenlaw30.RegexLiterals'. -/
def regexLiteralsUptoCard : Claim7 := { stood := { row := regexLiteralsUptoRow, standIns := [], harness := (true, "50bf666de8753efe9a45d143c1c12be91efc81664957d3462a9efe81ecd8627a"), looks := true }, kinds := [], alts := [], laidByText := true, laidKinds := [.data], laidTests := true, laidLooks := .later }
def RegexLiteralsUptoCardSaid : Prop := Claim7.holds Tryd.pinned (.plain (OpenSpec.upto regexLiteralsSpec)) regexLiteralsUptoCard
end Rows
end Go.Proofs.YtpiagfmjekcncaaDoor

/-
  DERIVED. GIVEN WITH THE SEED: THE CARDS: each row of YteojcdpmlhlfaaaDoorRows.lean that lists a variable, with what it lists TIED to the program's text (the seventh form; the later family's looks); each row that meets fmt, with fmt's text TOLD by the authors' own Lean function (tested against real Go, not proved from fmt's source: count such statements apart). THE CARD IS WHAT COUNTS. Prove the row's statement (the work); the ties are given (YteojcdpmlhlfaaaDoorTie.lean); close each card by the builder's one call (the guide's Derived/Test/ToyasCard.lean, 'card_holds'). Laid BY PROGRAM, IN A SANDBOX (cutbox-door.mjs). By AI agents, Wed Nov 11 2026. No macro, syntax, notation, axiom, sorry.
-/
import Derived.Test.YteojcdpmlhlfaaaDoorRows
import GoSem.ClaimSeven
namespace Go.Proofs.YteojcdpmlhlfaaaDoor
namespace Rows

/-- THE TIED CARD OF 'refinerylaw01.WordDoes'. -/
def wordDoesCard : Claim7 := { stood := { row := wordDoesRow, standIns := [], harness := (true, "69a791355a643c8461c7b0ae368999254555770e387eb1321b2f065f4844082f"), looks := false }, kinds := [], alts := [], laidByText := true, laidKinds := [.data], laidTests := true, laidLooks := .later }
def WordDoesCardSaid : Prop := Claim7.holds Tryd.pinned (.plain (OpenSpec.ofChange wordDoesSpec)) wordDoesCard

/-- THE TIED CARD OF 'refinerylaw01.WordShifts'. -/
def wordShiftsCard : Claim7 := { stood := { row := wordShiftsRow, standIns := [], harness := (true, "69a791355a643c8461c7b0ae368999254555770e387eb1321b2f065f4844082f"), looks := false }, kinds := [], alts := [], laidByText := true, laidKinds := [.data], laidTests := true, laidLooks := .later }
def WordShiftsCardSaid : Prop := Claim7.holds Tryd.pinned (.plain (OpenSpec.ofChange wordShiftsSpec)) wordShiftsCard

/-- THE TIED CARD OF 'refinerylaw01.WordEdges'. -/
def wordEdgesCard : Claim7 := { stood := { row := wordEdgesRow, standIns := [], harness := (true, "69a791355a643c8461c7b0ae368999254555770e387eb1321b2f065f4844082f"), looks := false }, kinds := [], alts := [], laidByText := true, laidKinds := [.data], laidTests := true, laidLooks := .later }
def WordEdgesCardSaid : Prop := Claim7.holds Tryd.pinned (.plain (OpenSpec.ofChange wordEdgesSpec)) wordEdgesCard

/-- THE TIED CARD OF 'refinerylaw01.WordLaws'. -/
def wordLawsCard : Claim7 := { stood := { row := wordLawsRow, standIns := [], harness := (true, "69a791355a643c8461c7b0ae368999254555770e387eb1321b2f065f4844082f"), looks := false }, kinds := [], alts := [], laidByText := true, laidKinds := [.data], laidTests := true, laidLooks := .later }
def WordLawsCardSaid : Prop := Claim7.holds Tryd.pinned (.plain (OpenSpec.ofChange wordLawsSpec)) wordLawsCard

/-- THE TIED CARD OF 'refinerylaw01.WordNames'. -/
def wordNamesCard : Claim7 := { stood := { row := wordNamesRow, standIns := [], harness := (true, "69a791355a643c8461c7b0ae368999254555770e387eb1321b2f065f4844082f"), looks := false }, kinds := [], alts := [], laidByText := true, laidKinds := [.data], laidTests := true, laidLooks := .later }
def WordNamesCardSaid : Prop := Claim7.holds Tryd.pinned (.plain (OpenSpec.ofChange wordNamesSpec)) wordNamesCard

/-- THE SECOND FORM's CARD OF 'refinerylaw01.WordDoes'. -/
def wordDoesUptoCard : Claim7 := { stood := { row := wordDoesUptoRow, standIns := [], harness := (true, "69a791355a643c8461c7b0ae368999254555770e387eb1321b2f065f4844082f"), looks := false }, kinds := [], alts := [], laidByText := true, laidKinds := [.data], laidTests := true, laidLooks := .later }
def WordDoesUptoCardSaid : Prop := Claim7.holds Tryd.pinned (.plain (OpenSpec.upto wordDoesSpec)) wordDoesUptoCard

/-- THE SECOND FORM's CARD OF 'refinerylaw01.WordShifts'. -/
def wordShiftsUptoCard : Claim7 := { stood := { row := wordShiftsUptoRow, standIns := [], harness := (true, "69a791355a643c8461c7b0ae368999254555770e387eb1321b2f065f4844082f"), looks := false }, kinds := [], alts := [], laidByText := true, laidKinds := [.data], laidTests := true, laidLooks := .later }
def WordShiftsUptoCardSaid : Prop := Claim7.holds Tryd.pinned (.plain (OpenSpec.upto wordShiftsSpec)) wordShiftsUptoCard

/-- THE SECOND FORM's CARD OF 'refinerylaw01.WordEdges'. -/
def wordEdgesUptoCard : Claim7 := { stood := { row := wordEdgesUptoRow, standIns := [], harness := (true, "69a791355a643c8461c7b0ae368999254555770e387eb1321b2f065f4844082f"), looks := false }, kinds := [], alts := [], laidByText := true, laidKinds := [.data], laidTests := true, laidLooks := .later }
def WordEdgesUptoCardSaid : Prop := Claim7.holds Tryd.pinned (.plain (OpenSpec.upto wordEdgesSpec)) wordEdgesUptoCard

/-- THE SECOND FORM's CARD OF 'refinerylaw01.WordLaws'. -/
def wordLawsUptoCard : Claim7 := { stood := { row := wordLawsUptoRow, standIns := [], harness := (true, "69a791355a643c8461c7b0ae368999254555770e387eb1321b2f065f4844082f"), looks := false }, kinds := [], alts := [], laidByText := true, laidKinds := [.data], laidTests := true, laidLooks := .later }
def WordLawsUptoCardSaid : Prop := Claim7.holds Tryd.pinned (.plain (OpenSpec.upto wordLawsSpec)) wordLawsUptoCard

/-- THE SECOND FORM's CARD OF 'refinerylaw01.WordNames'. -/
def wordNamesUptoCard : Claim7 := { stood := { row := wordNamesUptoRow, standIns := [], harness := (true, "69a791355a643c8461c7b0ae368999254555770e387eb1321b2f065f4844082f"), looks := false }, kinds := [], alts := [], laidByText := true, laidKinds := [.data], laidTests := true, laidLooks := .later }
def WordNamesUptoCardSaid : Prop := Claim7.holds Tryd.pinned (.plain (OpenSpec.upto wordNamesSpec)) wordNamesUptoCard
end Rows
end Go.Proofs.YteojcdpmlhlfaaaDoor

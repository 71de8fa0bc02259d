/-
  DERIVED. GIVEN WITH THE SEED: THE CARDS: each row of YtnpgfcedmdnemaaDoorRows.lean that lists a variable, with what it lists TIED to the program's text (the seventh form; the later family's looks); each row that meets fmt, with fmt's text TOLD by the authors' own Lean function (tested against real Go, not proved from fmt's source: count such statements apart). THE CARD IS WHAT COUNTS. Prove the row's statement (the work); the ties are given (YtnpgfcedmdnemaaDoorTie.lean); close each card by the builder's one call (the guide's Derived/Test/ToyasCard.lean, 'card_holds'). Laid BY PROGRAM, IN A SANDBOX (cutbox-door.mjs). By AI agents, Wed Nov 11 2026. No macro, syntax, notation, axiom, sorry.
-/
import Derived.Test.YtnpgfcedmdnemaaDoorRows
import GoSem.ClaimSeven
namespace Go.Proofs.YtnpgfcedmdnemaaDoor
namespace Rows

/-- THE TIED CARD OF 'cachepotlaw22.ViewStages'. -/
def viewStagesCard : Claim7 := { stood := { row := viewStagesRow, standIns := [], harness := (true, "604b0bab366b9e82bbfcd9e10ff0842465968126ddfa27eca37c9022db221e5f"), looks := false }, kinds := [], alts := [], laidByText := true, laidKinds := [.data, .data, .pinned], laidTests := true, laidLooks := .later }
def ViewStagesCardSaid : Prop := Claim7.holds Tryd.pinned (.plain (OpenSpec.ofChange viewStagesSpec)) viewStagesCard

/-- THE TIED CARD OF 'cachepotlaw22.ViewRefuses'. -/
def viewRefusesCard : Claim7 := { stood := { row := viewRefusesRow, standIns := [], harness := (true, "604b0bab366b9e82bbfcd9e10ff0842465968126ddfa27eca37c9022db221e5f"), looks := false }, kinds := [], alts := [], laidByText := true, laidKinds := [.data, .pinned], laidTests := true, laidLooks := .later }
def ViewRefusesCardSaid : Prop := Claim7.holds Tryd.pinned (.plain (OpenSpec.ofChange viewRefusesSpec)) viewRefusesCard

/-- THE TIED CARD OF 'cachepotlaw22.ViewReads'. -/
def viewReadsCard : Claim7 := { stood := { row := viewReadsRow, standIns := [], harness := (true, "604b0bab366b9e82bbfcd9e10ff0842465968126ddfa27eca37c9022db221e5f"), looks := false }, kinds := [], alts := [], laidByText := true, laidKinds := [.data, .pinned], laidTests := true, laidLooks := .later }
def ViewReadsCardSaid : Prop := Claim7.holds Tryd.pinned (.plain (OpenSpec.ofChange viewReadsSpec)) viewReadsCard

/-- THE TIED CARD OF 'cachepotlaw22.ViewFull'. -/
def viewFullCard : Claim7 := { stood := { row := viewFullRow, standIns := [], harness := (true, "604b0bab366b9e82bbfcd9e10ff0842465968126ddfa27eca37c9022db221e5f"), looks := false }, kinds := [], alts := [], laidByText := true, laidKinds := [.data, .pinned], laidTests := true, laidLooks := .later }
def ViewFullCardSaid : Prop := Claim7.holds Tryd.pinned (.plain (OpenSpec.ofChange viewFullSpec)) viewFullCard

/-- THE TIED CARD OF 'cachepotlaw22.ViewPlays'. -/
def viewPlaysCard : Claim7 := { stood := { row := viewPlaysRow, standIns := [], harness := (true, "604b0bab366b9e82bbfcd9e10ff0842465968126ddfa27eca37c9022db221e5f"), looks := false }, kinds := [], alts := [], laidByText := true, laidKinds := [.data, .data, .pinned], laidTests := true, laidLooks := .later }
def ViewPlaysCardSaid : Prop := Claim7.holds Tryd.pinned (.plain (OpenSpec.ofChange viewPlaysSpec)) viewPlaysCard

/-- THE TIED CARD OF 'cachepotlaw22.ViewNone'. -/
def viewNoneCard : Claim7 := { stood := { row := viewNoneRow, standIns := [], harness := (true, "604b0bab366b9e82bbfcd9e10ff0842465968126ddfa27eca37c9022db221e5f"), looks := false }, kinds := [], alts := [], laidByText := true, laidKinds := [.data, .pinned], laidTests := true, laidLooks := .later }
def ViewNoneCardSaid : Prop := Claim7.holds Tryd.pinned (.plain (OpenSpec.ofChange viewNoneSpec)) viewNoneCard

/-- THE SECOND FORM's CARD OF 'cachepotlaw22.ViewStages'. -/
def viewStagesUptoCard : Claim7 := { stood := { row := viewStagesUptoRow, standIns := [], harness := (true, "604b0bab366b9e82bbfcd9e10ff0842465968126ddfa27eca37c9022db221e5f"), looks := false }, kinds := [], alts := [], laidByText := true, laidKinds := [.data, .data, .pinned], laidTests := true, laidLooks := .later }
def ViewStagesUptoCardSaid : Prop := Claim7.holds Tryd.pinned (.plain (OpenSpec.upto viewStagesSpec)) viewStagesUptoCard

/-- THE SECOND FORM's CARD OF 'cachepotlaw22.ViewRefuses'. -/
def viewRefusesUptoCard : Claim7 := { stood := { row := viewRefusesUptoRow, standIns := [], harness := (true, "604b0bab366b9e82bbfcd9e10ff0842465968126ddfa27eca37c9022db221e5f"), looks := false }, kinds := [], alts := [], laidByText := true, laidKinds := [.data, .pinned], laidTests := true, laidLooks := .later }
def ViewRefusesUptoCardSaid : Prop := Claim7.holds Tryd.pinned (.plain (OpenSpec.upto viewRefusesSpec)) viewRefusesUptoCard

/-- THE SECOND FORM's CARD OF 'cachepotlaw22.ViewReads'. -/
def viewReadsUptoCard : Claim7 := { stood := { row := viewReadsUptoRow, standIns := [], harness := (true, "604b0bab366b9e82bbfcd9e10ff0842465968126ddfa27eca37c9022db221e5f"), looks := false }, kinds := [], alts := [], laidByText := true, laidKinds := [.data, .pinned], laidTests := true, laidLooks := .later }
def ViewReadsUptoCardSaid : Prop := Claim7.holds Tryd.pinned (.plain (OpenSpec.upto viewReadsSpec)) viewReadsUptoCard

/-- THE SECOND FORM's CARD OF 'cachepotlaw22.ViewFull'. -/
def viewFullUptoCard : Claim7 := { stood := { row := viewFullUptoRow, standIns := [], harness := (true, "604b0bab366b9e82bbfcd9e10ff0842465968126ddfa27eca37c9022db221e5f"), looks := false }, kinds := [], alts := [], laidByText := true, laidKinds := [.data, .pinned], laidTests := true, laidLooks := .later }
def ViewFullUptoCardSaid : Prop := Claim7.holds Tryd.pinned (.plain (OpenSpec.upto viewFullSpec)) viewFullUptoCard

/-- THE SECOND FORM's CARD OF 'cachepotlaw22.ViewPlays'. -/
def viewPlaysUptoCard : Claim7 := { stood := { row := viewPlaysUptoRow, standIns := [], harness := (true, "604b0bab366b9e82bbfcd9e10ff0842465968126ddfa27eca37c9022db221e5f"), looks := false }, kinds := [], alts := [], laidByText := true, laidKinds := [.data, .data, .pinned], laidTests := true, laidLooks := .later }
def ViewPlaysUptoCardSaid : Prop := Claim7.holds Tryd.pinned (.plain (OpenSpec.upto viewPlaysSpec)) viewPlaysUptoCard

/-- THE SECOND FORM's CARD OF 'cachepotlaw22.ViewNone'. -/
def viewNoneUptoCard : Claim7 := { stood := { row := viewNoneUptoRow, standIns := [], harness := (true, "604b0bab366b9e82bbfcd9e10ff0842465968126ddfa27eca37c9022db221e5f"), looks := false }, kinds := [], alts := [], laidByText := true, laidKinds := [.data, .pinned], laidTests := true, laidLooks := .later }
def ViewNoneUptoCardSaid : Prop := Claim7.holds Tryd.pinned (.plain (OpenSpec.upto viewNoneSpec)) viewNoneUptoCard
end Rows
end Go.Proofs.YtnpgfcedmdnemaaDoor

/-
  DERIVED. GIVEN WITH THE SEED: THE CARDS: each row of YtlnadpijicfceaaDoorRows.lean that lists a variable, with what it lists TIED to the program's text (the seventh form; the later family's looks); each row that meets fmt, with fmt's text TOLD by the authors' own Lean function (tested against real Go, not proved from fmt's source: count such statements apart). THE CARD IS WHAT COUNTS. Prove the row's statement (the work); the ties are given (YtlnadpijicfceaaDoorTie.lean); close each card by the builder's one call (the guide's Derived/Test/ToyasCard.lean, 'card_holds'). Laid BY PROGRAM, IN A SANDBOX (cutbox-door.mjs). By AI agents, Wed Nov 11 2026. No macro, syntax, notation, axiom, sorry.
-/
import Derived.Test.YtlnadpijicfceaaDoorRows
import GoSem.ClaimSeven
namespace Go.Proofs.YtlnadpijicfceaaDoor
namespace Rows

/-- THE TIED CARD OF 'cachepotlaw10.GroupCuts'. -/
def groupCutsCard : Claim7 := { stood := { row := groupCutsRow, standIns := [], harness := (true, "904b5257aec037805ae6b0bab09236c1c57b0769df02c1438cf69b5bd8031f82"), looks := true }, kinds := [], alts := [], laidByText := true, laidKinds := [.data, .pinned], laidTests := true, laidLooks := .later }
def GroupCutsCardSaid : Prop := Claim7.holds Tryd.pinned (.plain (OpenSpec.ofChange groupCutsSpec)) groupCutsCard

/-- THE TIED CARD OF 'cachepotlaw10.GroupJoins'. -/
def groupJoinsCard : Claim7 := { stood := { row := groupJoinsRow, standIns := [], harness := (true, "904b5257aec037805ae6b0bab09236c1c57b0769df02c1438cf69b5bd8031f82"), looks := true }, kinds := [], alts := [], laidByText := true, laidKinds := [.data, .pinned], laidTests := true, laidLooks := .later }
def GroupJoinsCardSaid : Prop := Claim7.holds Tryd.pinned (.plain (OpenSpec.ofChange groupJoinsSpec)) groupJoinsCard

/-- THE TIED CARD OF 'cachepotlaw10.GroupBent'. -/
def groupBentCard : Claim7 := { stood := { row := groupBentRow, standIns := [], harness := (true, "904b5257aec037805ae6b0bab09236c1c57b0769df02c1438cf69b5bd8031f82"), looks := true }, kinds := [], alts := [], laidByText := true, laidKinds := [.data, .pinned], laidTests := true, laidLooks := .later }
def GroupBentCardSaid : Prop := Claim7.holds Tryd.pinned (.plain (OpenSpec.ofChange groupBentSpec)) groupBentCard

/-- THE TIED CARD OF 'cachepotlaw10.GroupBack'. -/
def groupBackCard : Claim7 := { stood := { row := groupBackRow, standIns := [], harness := (true, "904b5257aec037805ae6b0bab09236c1c57b0769df02c1438cf69b5bd8031f82"), looks := true }, kinds := [], alts := [], laidByText := true, laidKinds := [.data, .pinned], laidTests := true, laidLooks := .later }
def GroupBackCardSaid : Prop := Claim7.holds Tryd.pinned (.plain (OpenSpec.ofChange groupBackSpec)) groupBackCard

/-- THE TIED CARD OF 'cachepotlaw10.GroupTurned'. -/
def groupTurnedCard : Claim7 := { stood := { row := groupTurnedRow, standIns := [], harness := (true, "904b5257aec037805ae6b0bab09236c1c57b0769df02c1438cf69b5bd8031f82"), looks := true }, kinds := [], alts := [], laidByText := true, laidKinds := [.data, .pinned], laidTests := true, laidLooks := .later }
def GroupTurnedCardSaid : Prop := Claim7.holds Tryd.pinned (.plain (OpenSpec.ofChange groupTurnedSpec)) groupTurnedCard

/-- THE TIED CARD OF 'cachepotlaw10.GroupParts'. -/
def groupPartsCard : Claim7 := { stood := { row := groupPartsRow, standIns := [], harness := (true, "904b5257aec037805ae6b0bab09236c1c57b0769df02c1438cf69b5bd8031f82"), looks := true }, kinds := [], alts := [], laidByText := true, laidKinds := [.data, .pinned], laidTests := true, laidLooks := .later }
def GroupPartsCardSaid : Prop := Claim7.holds Tryd.pinned (.plain (OpenSpec.ofChange groupPartsSpec)) groupPartsCard

/-- THE TIED CARD OF 'cachepotlaw10.GroupLacks'. -/
def groupLacksCard : Claim7 := { stood := { row := groupLacksRow, standIns := [], harness := (true, "904b5257aec037805ae6b0bab09236c1c57b0769df02c1438cf69b5bd8031f82"), looks := true }, kinds := [], alts := [], laidByText := true, laidKinds := [.data, .pinned], laidTests := true, laidLooks := .later }
def GroupLacksCardSaid : Prop := Claim7.holds Tryd.pinned (.plain (OpenSpec.ofChange groupLacksSpec)) groupLacksCard

/-- THE SECOND FORM's CARD OF 'cachepotlaw10.GroupCuts'. -/
def groupCutsUptoCard : Claim7 := { stood := { row := groupCutsUptoRow, standIns := [], harness := (true, "904b5257aec037805ae6b0bab09236c1c57b0769df02c1438cf69b5bd8031f82"), looks := true }, kinds := [], alts := [], laidByText := true, laidKinds := [.data, .pinned], laidTests := true, laidLooks := .later }
def GroupCutsUptoCardSaid : Prop := Claim7.holds Tryd.pinned (.plain (OpenSpec.upto groupCutsSpec)) groupCutsUptoCard

/-- THE SECOND FORM's CARD OF 'cachepotlaw10.GroupJoins'. -/
def groupJoinsUptoCard : Claim7 := { stood := { row := groupJoinsUptoRow, standIns := [], harness := (true, "904b5257aec037805ae6b0bab09236c1c57b0769df02c1438cf69b5bd8031f82"), looks := true }, kinds := [], alts := [], laidByText := true, laidKinds := [.data, .pinned], laidTests := true, laidLooks := .later }
def GroupJoinsUptoCardSaid : Prop := Claim7.holds Tryd.pinned (.plain (OpenSpec.upto groupJoinsSpec)) groupJoinsUptoCard

/-- THE SECOND FORM's CARD OF 'cachepotlaw10.GroupBent'. -/
def groupBentUptoCard : Claim7 := { stood := { row := groupBentUptoRow, standIns := [], harness := (true, "904b5257aec037805ae6b0bab09236c1c57b0769df02c1438cf69b5bd8031f82"), looks := true }, kinds := [], alts := [], laidByText := true, laidKinds := [.data, .pinned], laidTests := true, laidLooks := .later }
def GroupBentUptoCardSaid : Prop := Claim7.holds Tryd.pinned (.plain (OpenSpec.upto groupBentSpec)) groupBentUptoCard

/-- THE SECOND FORM's CARD OF 'cachepotlaw10.GroupBack'. -/
def groupBackUptoCard : Claim7 := { stood := { row := groupBackUptoRow, standIns := [], harness := (true, "904b5257aec037805ae6b0bab09236c1c57b0769df02c1438cf69b5bd8031f82"), looks := true }, kinds := [], alts := [], laidByText := true, laidKinds := [.data, .pinned], laidTests := true, laidLooks := .later }
def GroupBackUptoCardSaid : Prop := Claim7.holds Tryd.pinned (.plain (OpenSpec.upto groupBackSpec)) groupBackUptoCard

/-- THE SECOND FORM's CARD OF 'cachepotlaw10.GroupTurned'. -/
def groupTurnedUptoCard : Claim7 := { stood := { row := groupTurnedUptoRow, standIns := [], harness := (true, "904b5257aec037805ae6b0bab09236c1c57b0769df02c1438cf69b5bd8031f82"), looks := true }, kinds := [], alts := [], laidByText := true, laidKinds := [.data, .pinned], laidTests := true, laidLooks := .later }
def GroupTurnedUptoCardSaid : Prop := Claim7.holds Tryd.pinned (.plain (OpenSpec.upto groupTurnedSpec)) groupTurnedUptoCard

/-- THE SECOND FORM's CARD OF 'cachepotlaw10.GroupParts'. -/
def groupPartsUptoCard : Claim7 := { stood := { row := groupPartsUptoRow, standIns := [], harness := (true, "904b5257aec037805ae6b0bab09236c1c57b0769df02c1438cf69b5bd8031f82"), looks := true }, kinds := [], alts := [], laidByText := true, laidKinds := [.data, .pinned], laidTests := true, laidLooks := .later }
def GroupPartsUptoCardSaid : Prop := Claim7.holds Tryd.pinned (.plain (OpenSpec.upto groupPartsSpec)) groupPartsUptoCard

/-- THE SECOND FORM's CARD OF 'cachepotlaw10.GroupLacks'. -/
def groupLacksUptoCard : Claim7 := { stood := { row := groupLacksUptoRow, standIns := [], harness := (true, "904b5257aec037805ae6b0bab09236c1c57b0769df02c1438cf69b5bd8031f82"), looks := true }, kinds := [], alts := [], laidByText := true, laidKinds := [.data, .pinned], laidTests := true, laidLooks := .later }
def GroupLacksUptoCardSaid : Prop := Claim7.holds Tryd.pinned (.plain (OpenSpec.upto groupLacksSpec)) groupLacksUptoCard
end Rows
end Go.Proofs.YtlnadpijicfceaaDoor

/-
  DERIVED. GIVEN WITH THE SEED: THE CARDS: each row of YtlhcebhalhgmaaaDoorRows.lean that lists a variable, with what it lists TIED to the program's text (the seventh form; the later family's looks); each row that meets fmt, with fmt's text TOLD by the authors' own Lean function (tested against real Go, not proved from fmt's source: count such statements apart). THE CARD IS WHAT COUNTS. Prove the row's statement (the work); the ties are given (YtlhcebhalhgmaaaDoorTie.lean); close each card by the builder's one call (the guide's Derived/Test/ToyasCard.lean, 'card_holds'). Laid BY PROGRAM, IN A SANDBOX (cutbox-door.mjs). By AI agents, Wed Nov 11 2026. No macro, syntax, notation, axiom, sorry.
-/
import Derived.Test.YtlhcebhalhgmaaaDoorRows
import GoSem.ClaimSeven
namespace Go.Proofs.YtlhcebhalhgmaaaDoor
namespace Rows

/-- THE TIED CARD OF 'cachepotlaw2.KeysRight'. -/
def keysRightCard : Claim7 := { stood := { row := keysRightRow, standIns := [], harness := (true, "870baaf8f1c745a5a98faada2e853d296d0e7265134ab5352290bc48c4796eb5"), looks := false }, kinds := [], alts := [], laidByText := true, laidKinds := [.data, .pinned], laidTests := true, laidLooks := .later }
def KeysRightCardSaid : Prop := Claim7.holds Tryd.pinned (.plain (OpenSpec.ofChange keysRightSpec)) keysRightCard

/-- THE TIED CARD OF 'cachepotlaw2.KeysHeads'. -/
def keysHeadsCard : Claim7 := { stood := { row := keysHeadsRow, standIns := [], harness := (true, "870baaf8f1c745a5a98faada2e853d296d0e7265134ab5352290bc48c4796eb5"), looks := false }, kinds := [], alts := [], laidByText := true, laidKinds := [.data, .pinned], laidTests := true, laidLooks := .later }
def KeysHeadsCardSaid : Prop := Claim7.holds Tryd.pinned (.plain (OpenSpec.ofChange keysHeadsSpec)) keysHeadsCard

/-- THE TIED CARD OF 'cachepotlaw2.KeysBytes'. -/
def keysBytesCard : Claim7 := { stood := { row := keysBytesRow, standIns := [], harness := (true, "870baaf8f1c745a5a98faada2e853d296d0e7265134ab5352290bc48c4796eb5"), looks := false }, kinds := [], alts := [], laidByText := true, laidKinds := [.data, .pinned], laidTests := true, laidLooks := .later }
def KeysBytesCardSaid : Prop := Claim7.holds Tryd.pinned (.plain (OpenSpec.ofChange keysBytesSpec)) keysBytesCard

/-- THE TIED CARD OF 'cachepotlaw2.KeysJoins'. -/
def keysJoinsCard : Claim7 := { stood := { row := keysJoinsRow, standIns := [], harness := (true, "870baaf8f1c745a5a98faada2e853d296d0e7265134ab5352290bc48c4796eb5"), looks := false }, kinds := [], alts := [], laidByText := true, laidKinds := [.data, .pinned], laidTests := true, laidLooks := .later }
def KeysJoinsCardSaid : Prop := Claim7.holds Tryd.pinned (.plain (OpenSpec.ofChange keysJoinsSpec)) keysJoinsCard

/-- THE TIED CARD OF 'cachepotlaw2.KeysOrder'. -/
def keysOrderCard : Claim7 := { stood := { row := keysOrderRow, standIns := [], harness := (true, "870baaf8f1c745a5a98faada2e853d296d0e7265134ab5352290bc48c4796eb5"), looks := false }, kinds := [], alts := [], laidByText := true, laidKinds := [.data, .pinned], laidTests := true, laidLooks := .later }
def KeysOrderCardSaid : Prop := Claim7.holds Tryd.pinned (.plain (OpenSpec.ofChange keysOrderSpec)) keysOrderCard

/-- THE TIED CARD OF 'cachepotlaw2.KeysChain'. -/
def keysChainCard : Claim7 := { stood := { row := keysChainRow, standIns := [], harness := (true, "870baaf8f1c745a5a98faada2e853d296d0e7265134ab5352290bc48c4796eb5"), looks := false }, kinds := [], alts := [], laidByText := true, laidKinds := [.data, .pinned], laidTests := true, laidLooks := .later }
def KeysChainCardSaid : Prop := Claim7.holds Tryd.pinned (.plain (OpenSpec.ofChange keysChainSpec)) keysChainCard

/-- THE TIED CARD OF 'cachepotlaw2.KeysSorts'. -/
def keysSortsCard : Claim7 := { stood := { row := keysSortsRow, standIns := [], harness := (true, "870baaf8f1c745a5a98faada2e853d296d0e7265134ab5352290bc48c4796eb5"), looks := false }, kinds := [], alts := [], laidByText := true, laidKinds := [.data, .pinned], laidTests := true, laidLooks := .later }
def KeysSortsCardSaid : Prop := Claim7.holds Tryd.pinned (.plain (OpenSpec.ofChange keysSortsSpec)) keysSortsCard

/-- THE SECOND FORM's CARD OF 'cachepotlaw2.KeysRight'. -/
def keysRightUptoCard : Claim7 := { stood := { row := keysRightUptoRow, standIns := [], harness := (true, "870baaf8f1c745a5a98faada2e853d296d0e7265134ab5352290bc48c4796eb5"), looks := false }, kinds := [], alts := [], laidByText := true, laidKinds := [.data, .pinned], laidTests := true, laidLooks := .later }
def KeysRightUptoCardSaid : Prop := Claim7.holds Tryd.pinned (.plain (OpenSpec.upto keysRightSpec)) keysRightUptoCard

/-- THE SECOND FORM's CARD OF 'cachepotlaw2.KeysHeads'. -/
def keysHeadsUptoCard : Claim7 := { stood := { row := keysHeadsUptoRow, standIns := [], harness := (true, "870baaf8f1c745a5a98faada2e853d296d0e7265134ab5352290bc48c4796eb5"), looks := false }, kinds := [], alts := [], laidByText := true, laidKinds := [.data, .pinned], laidTests := true, laidLooks := .later }
def KeysHeadsUptoCardSaid : Prop := Claim7.holds Tryd.pinned (.plain (OpenSpec.upto keysHeadsSpec)) keysHeadsUptoCard

/-- THE SECOND FORM's CARD OF 'cachepotlaw2.KeysBytes'. -/
def keysBytesUptoCard : Claim7 := { stood := { row := keysBytesUptoRow, standIns := [], harness := (true, "870baaf8f1c745a5a98faada2e853d296d0e7265134ab5352290bc48c4796eb5"), looks := false }, kinds := [], alts := [], laidByText := true, laidKinds := [.data, .pinned], laidTests := true, laidLooks := .later }
def KeysBytesUptoCardSaid : Prop := Claim7.holds Tryd.pinned (.plain (OpenSpec.upto keysBytesSpec)) keysBytesUptoCard

/-- THE SECOND FORM's CARD OF 'cachepotlaw2.KeysJoins'. -/
def keysJoinsUptoCard : Claim7 := { stood := { row := keysJoinsUptoRow, standIns := [], harness := (true, "870baaf8f1c745a5a98faada2e853d296d0e7265134ab5352290bc48c4796eb5"), looks := false }, kinds := [], alts := [], laidByText := true, laidKinds := [.data, .pinned], laidTests := true, laidLooks := .later }
def KeysJoinsUptoCardSaid : Prop := Claim7.holds Tryd.pinned (.plain (OpenSpec.upto keysJoinsSpec)) keysJoinsUptoCard

/-- THE SECOND FORM's CARD OF 'cachepotlaw2.KeysOrder'. -/
def keysOrderUptoCard : Claim7 := { stood := { row := keysOrderUptoRow, standIns := [], harness := (true, "870baaf8f1c745a5a98faada2e853d296d0e7265134ab5352290bc48c4796eb5"), looks := false }, kinds := [], alts := [], laidByText := true, laidKinds := [.data, .pinned], laidTests := true, laidLooks := .later }
def KeysOrderUptoCardSaid : Prop := Claim7.holds Tryd.pinned (.plain (OpenSpec.upto keysOrderSpec)) keysOrderUptoCard

/-- THE SECOND FORM's CARD OF 'cachepotlaw2.KeysChain'. -/
def keysChainUptoCard : Claim7 := { stood := { row := keysChainUptoRow, standIns := [], harness := (true, "870baaf8f1c745a5a98faada2e853d296d0e7265134ab5352290bc48c4796eb5"), looks := false }, kinds := [], alts := [], laidByText := true, laidKinds := [.data, .pinned], laidTests := true, laidLooks := .later }
def KeysChainUptoCardSaid : Prop := Claim7.holds Tryd.pinned (.plain (OpenSpec.upto keysChainSpec)) keysChainUptoCard

/-- THE SECOND FORM's CARD OF 'cachepotlaw2.KeysSorts'. -/
def keysSortsUptoCard : Claim7 := { stood := { row := keysSortsUptoRow, standIns := [], harness := (true, "870baaf8f1c745a5a98faada2e853d296d0e7265134ab5352290bc48c4796eb5"), looks := false }, kinds := [], alts := [], laidByText := true, laidKinds := [.data, .pinned], laidTests := true, laidLooks := .later }
def KeysSortsUptoCardSaid : Prop := Claim7.holds Tryd.pinned (.plain (OpenSpec.upto keysSortsSpec)) keysSortsUptoCard
end Rows
end Go.Proofs.YtlhcebhalhgmaaaDoor

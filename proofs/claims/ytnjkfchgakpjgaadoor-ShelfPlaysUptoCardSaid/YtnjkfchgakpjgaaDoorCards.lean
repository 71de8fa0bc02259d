/-
  DERIVED. GIVEN WITH THE SEED: THE CARDS: each row of YtnjkfchgakpjgaaDoorRows.lean that lists a variable, with what it lists TIED to the program's text (the seventh form; the later family's looks); each row that meets fmt, with fmt's text TOLD by the authors' own Lean function (tested against real Go, not proved from fmt's source: count such statements apart). THE CARD IS WHAT COUNTS. Prove the row's statement (the work); the ties are given (YtnjkfchgakpjgaaDoorTie.lean); close each card by the builder's one call (the guide's Derived/Test/ToyasCard.lean, 'card_holds'). Laid BY PROGRAM, IN A SANDBOX (cutbox-door.mjs). By AI agents, Wed Nov 11 2026. No macro, syntax, notation, axiom, sorry.
-/
import Derived.Test.YtnjkfchgakpjgaaDoorRows
import GoSem.ClaimSeven
namespace Go.Proofs.YtnjkfchgakpjgaaDoor
namespace Rows

/-- THE TIED CARD OF 'cachepotlaw15.ShelfLast'. -/
def shelfLastCard : Claim7 := { stood := { row := shelfLastRow, standIns := [], harness := (true, "54974c2a81f465a9f26c9c17ec65c65f7ca99c7499f3d10fdce29f6d604c8a8c"), looks := false }, kinds := [], alts := [], laidByText := true, laidKinds := [.data], laidTests := true, laidLooks := .later }
def ShelfLastCardSaid : Prop := Claim7.holds Tryd.pinned (.plain (OpenSpec.ofChange shelfLastSpec)) shelfLastCard

/-- THE TIED CARD OF 'cachepotlaw15.ShelfDrops'. -/
def shelfDropsCard : Claim7 := { stood := { row := shelfDropsRow, standIns := [], harness := (true, "54974c2a81f465a9f26c9c17ec65c65f7ca99c7499f3d10fdce29f6d604c8a8c"), looks := false }, kinds := [], alts := [], laidByText := true, laidKinds := [.data], laidTests := true, laidLooks := .later }
def ShelfDropsCardSaid : Prop := Claim7.holds Tryd.pinned (.plain (OpenSpec.ofChange shelfDropsSpec)) shelfDropsCard

/-- THE TIED CARD OF 'cachepotlaw15.ShelfTop'. -/
def shelfTopCard : Claim7 := { stood := { row := shelfTopRow, standIns := [], harness := (true, "54974c2a81f465a9f26c9c17ec65c65f7ca99c7499f3d10fdce29f6d604c8a8c"), looks := false }, kinds := [], alts := [], laidByText := true, laidKinds := [.data], laidTests := true, laidLooks := .later }
def ShelfTopCardSaid : Prop := Claim7.holds Tryd.pinned (.plain (OpenSpec.ofChange shelfTopSpec)) shelfTopCard

/-- THE TIED CARD OF 'cachepotlaw15.ShelfPlays'. -/
def shelfPlaysCard : Claim7 := { stood := { row := shelfPlaysRow, standIns := [], harness := (true, "54974c2a81f465a9f26c9c17ec65c65f7ca99c7499f3d10fdce29f6d604c8a8c"), looks := false }, kinds := [], alts := [], laidByText := true, laidKinds := [.data], laidTests := true, laidLooks := .later }
def ShelfPlaysCardSaid : Prop := Claim7.holds Tryd.pinned (.plain (OpenSpec.ofChange shelfPlaysSpec)) shelfPlaysCard

/-- THE SECOND FORM's CARD OF 'cachepotlaw15.ShelfLast'. -/
def shelfLastUptoCard : Claim7 := { stood := { row := shelfLastUptoRow, standIns := [], harness := (true, "54974c2a81f465a9f26c9c17ec65c65f7ca99c7499f3d10fdce29f6d604c8a8c"), looks := false }, kinds := [], alts := [], laidByText := true, laidKinds := [.data], laidTests := true, laidLooks := .later }
def ShelfLastUptoCardSaid : Prop := Claim7.holds Tryd.pinned (.plain (OpenSpec.upto shelfLastSpec)) shelfLastUptoCard

/-- THE SECOND FORM's CARD OF 'cachepotlaw15.ShelfDrops'. -/
def shelfDropsUptoCard : Claim7 := { stood := { row := shelfDropsUptoRow, standIns := [], harness := (true, "54974c2a81f465a9f26c9c17ec65c65f7ca99c7499f3d10fdce29f6d604c8a8c"), looks := false }, kinds := [], alts := [], laidByText := true, laidKinds := [.data], laidTests := true, laidLooks := .later }
def ShelfDropsUptoCardSaid : Prop := Claim7.holds Tryd.pinned (.plain (OpenSpec.upto shelfDropsSpec)) shelfDropsUptoCard

/-- THE SECOND FORM's CARD OF 'cachepotlaw15.ShelfTop'. -/
def shelfTopUptoCard : Claim7 := { stood := { row := shelfTopUptoRow, standIns := [], harness := (true, "54974c2a81f465a9f26c9c17ec65c65f7ca99c7499f3d10fdce29f6d604c8a8c"), looks := false }, kinds := [], alts := [], laidByText := true, laidKinds := [.data], laidTests := true, laidLooks := .later }
def ShelfTopUptoCardSaid : Prop := Claim7.holds Tryd.pinned (.plain (OpenSpec.upto shelfTopSpec)) shelfTopUptoCard

/-- THE SECOND FORM's CARD OF 'cachepotlaw15.ShelfPlays'. -/
def shelfPlaysUptoCard : Claim7 := { stood := { row := shelfPlaysUptoRow, standIns := [], harness := (true, "54974c2a81f465a9f26c9c17ec65c65f7ca99c7499f3d10fdce29f6d604c8a8c"), looks := false }, kinds := [], alts := [], laidByText := true, laidKinds := [.data], laidTests := true, laidLooks := .later }
def ShelfPlaysUptoCardSaid : Prop := Claim7.holds Tryd.pinned (.plain (OpenSpec.upto shelfPlaysSpec)) shelfPlaysUptoCard
end Rows
end Go.Proofs.YtnjkfchgakpjgaaDoor

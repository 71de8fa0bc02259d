/-
  DERIVED. GIVEN WITH THE SEED: THE CARDS: each row of YtodhjfdlbbpbpaaDoorRows.lean that lists a variable, with what it lists TIED to the program's text (the seventh form; the later family's looks); each row that meets fmt, with fmt's text TOLD by the authors' own Lean function (tested against real Go, not proved from fmt's source: count such statements apart). THE CARD IS WHAT COUNTS. Prove the row's statement (the work); the ties are given (YtodhjfdlbbpbpaaDoorTie.lean); close each card by the builder's one call (the guide's Derived/Test/ToyasCard.lean, 'card_holds'). Laid BY PROGRAM, IN A SANDBOX (cutbox-door.mjs). By AI agents, Wed Nov 11 2026. No macro, syntax, notation, axiom, sorry.
-/
import Derived.Test.YtodhjfdlbbpbpaaDoorRows
import GoSem.ClaimSeven
namespace Go.Proofs.YtodhjfdlbbpbpaaDoor
namespace Rows

/-- THE TIED CARD OF 'cachepotlaw3.GlobSets'. -/
def globSetsCard : Claim7 := { stood := { row := globSetsRow, standIns := [], harness := (true, "6c58f00435072c757dff13215058f28f9bb105d849695109b4649a981817e8d9"), looks := false }, kinds := [], alts := [], laidByText := true, laidKinds := [.data, .pinned], laidTests := true, laidLooks := .later }
def GlobSetsCardSaid : Prop := Claim7.holds Tryd.pinned (.plain (OpenSpec.ofChange globSetsSpec)) globSetsCard

/-- THE TIED CARD OF 'cachepotlaw3.GlobCounts'. -/
def globCountsCard : Claim7 := { stood := { row := globCountsRow, standIns := [], harness := (true, "6c58f00435072c757dff13215058f28f9bb105d849695109b4649a981817e8d9"), looks := false }, kinds := [], alts := [], laidByText := true, laidKinds := [.data, .pinned], laidTests := true, laidLooks := .later }
def GlobCountsCardSaid : Prop := Claim7.holds Tryd.pinned (.plain (OpenSpec.ofChange globCountsSpec)) globCountsCard

/-- THE TIED CARD OF 'cachepotlaw3.GlobStars'. -/
def globStarsCard : Claim7 := { stood := { row := globStarsRow, standIns := [], harness := (true, "6c58f00435072c757dff13215058f28f9bb105d849695109b4649a981817e8d9"), looks := false }, kinds := [], alts := [], laidByText := true, laidKinds := [.data, .pinned], laidTests := true, laidLooks := .later }
def GlobStarsCardSaid : Prop := Claim7.holds Tryd.pinned (.plain (OpenSpec.ofChange globStarsSpec)) globStarsCard

/-- THE TIED CARD OF 'cachepotlaw3.GlobQuotes'. -/
def globQuotesCard : Claim7 := { stood := { row := globQuotesRow, standIns := [], harness := (true, "6c58f00435072c757dff13215058f28f9bb105d849695109b4649a981817e8d9"), looks := false }, kinds := [], alts := [], laidByText := true, laidKinds := [.data, .pinned], laidTests := true, laidLooks := .later }
def GlobQuotesCardSaid : Prop := Claim7.holds Tryd.pinned (.plain (OpenSpec.ofChange globQuotesSpec)) globQuotesCard

/-- THE SECOND FORM's CARD OF 'cachepotlaw3.GlobSets'. -/
def globSetsUptoCard : Claim7 := { stood := { row := globSetsUptoRow, standIns := [], harness := (true, "6c58f00435072c757dff13215058f28f9bb105d849695109b4649a981817e8d9"), looks := false }, kinds := [], alts := [], laidByText := true, laidKinds := [.data, .pinned], laidTests := true, laidLooks := .later }
def GlobSetsUptoCardSaid : Prop := Claim7.holds Tryd.pinned (.plain (OpenSpec.upto globSetsSpec)) globSetsUptoCard

/-- THE SECOND FORM's CARD OF 'cachepotlaw3.GlobCounts'. -/
def globCountsUptoCard : Claim7 := { stood := { row := globCountsUptoRow, standIns := [], harness := (true, "6c58f00435072c757dff13215058f28f9bb105d849695109b4649a981817e8d9"), looks := false }, kinds := [], alts := [], laidByText := true, laidKinds := [.data, .pinned], laidTests := true, laidLooks := .later }
def GlobCountsUptoCardSaid : Prop := Claim7.holds Tryd.pinned (.plain (OpenSpec.upto globCountsSpec)) globCountsUptoCard

/-- THE SECOND FORM's CARD OF 'cachepotlaw3.GlobStars'. -/
def globStarsUptoCard : Claim7 := { stood := { row := globStarsUptoRow, standIns := [], harness := (true, "6c58f00435072c757dff13215058f28f9bb105d849695109b4649a981817e8d9"), looks := false }, kinds := [], alts := [], laidByText := true, laidKinds := [.data, .pinned], laidTests := true, laidLooks := .later }
def GlobStarsUptoCardSaid : Prop := Claim7.holds Tryd.pinned (.plain (OpenSpec.upto globStarsSpec)) globStarsUptoCard

/-- THE SECOND FORM's CARD OF 'cachepotlaw3.GlobQuotes'. -/
def globQuotesUptoCard : Claim7 := { stood := { row := globQuotesUptoRow, standIns := [], harness := (true, "6c58f00435072c757dff13215058f28f9bb105d849695109b4649a981817e8d9"), looks := false }, kinds := [], alts := [], laidByText := true, laidKinds := [.data, .pinned], laidTests := true, laidLooks := .later }
def GlobQuotesUptoCardSaid : Prop := Claim7.holds Tryd.pinned (.plain (OpenSpec.upto globQuotesSpec)) globQuotesUptoCard
end Rows
end Go.Proofs.YtodhjfdlbbpbpaaDoor

/-
  DERIVED. GIVEN WITH THE SEED: THE CARDS: each row of YtfdglmgblmoakaaDoorRows.lean that lists a variable, with what it lists TIED to the program's text (the seventh form; the later family's looks); each row that meets fmt, with fmt's text TOLD by the authors' own Lean function (tested against real Go, not proved from fmt's source: count such statements apart). THE CARD IS WHAT COUNTS. Prove the row's statement (the work); the ties are given (YtfdglmgblmoakaaDoorTie.lean); close each card by the builder's one call (the guide's Derived/Test/ToyasCard.lean, 'card_holds'). Laid BY PROGRAM, IN A SANDBOX (cutbox-door.mjs). By AI agents, Wed Nov 11 2026. No macro, syntax, notation, axiom, sorry.
-/
import Derived.Test.YtfdglmgblmoakaaDoorRows
import GoSem.ClaimSeven
namespace Go.Proofs.YtfdglmgblmoakaaDoor
namespace Rows

/-- THE TIED CARD OF 'cachepotlaw20.AtomForgets'. -/
def atomForgetsCard : Claim7 := { stood := { row := atomForgetsRow, standIns := [], harness := (true, "ac8ca059d3ef32ff152afb022e477dbd9da89cc9070a095830528d396ab458d5"), looks := false }, kinds := [], alts := [], laidByText := true, laidKinds := [.data], laidTests := true, laidLooks := .later }
def AtomForgetsCardSaid : Prop := Claim7.holds Tryd.pinned (.plain (OpenSpec.ofChange atomForgetsSpec)) atomForgetsCard

/-- THE TIED CARD OF 'cachepotlaw20.AtomPlays'. -/
def atomPlaysCard : Claim7 := { stood := { row := atomPlaysRow, standIns := [], harness := (true, "ac8ca059d3ef32ff152afb022e477dbd9da89cc9070a095830528d396ab458d5"), looks := false }, kinds := [], alts := [], laidByText := true, laidKinds := [.data], laidTests := true, laidLooks := .later }
def AtomPlaysCardSaid : Prop := Claim7.holds Tryd.pinned (.plain (OpenSpec.ofChange atomPlaysSpec)) atomPlaysCard

/-- THE TIED CARD OF 'cachepotlaw20.AtomApart'. -/
def atomApartCard : Claim7 := { stood := { row := atomApartRow, standIns := [], harness := (true, "ac8ca059d3ef32ff152afb022e477dbd9da89cc9070a095830528d396ab458d5"), looks := false }, kinds := [], alts := [], laidByText := true, laidKinds := [.data], laidTests := true, laidLooks := .later }
def AtomApartCardSaid : Prop := Claim7.holds Tryd.pinned (.plain (OpenSpec.ofChange atomApartSpec)) atomApartCard

/-- THE SECOND FORM's CARD OF 'cachepotlaw20.AtomForgets'. -/
def atomForgetsUptoCard : Claim7 := { stood := { row := atomForgetsUptoRow, standIns := [], harness := (true, "ac8ca059d3ef32ff152afb022e477dbd9da89cc9070a095830528d396ab458d5"), looks := false }, kinds := [], alts := [], laidByText := true, laidKinds := [.data], laidTests := true, laidLooks := .later }
def AtomForgetsUptoCardSaid : Prop := Claim7.holds Tryd.pinned (.plain (OpenSpec.upto atomForgetsSpec)) atomForgetsUptoCard

/-- THE SECOND FORM's CARD OF 'cachepotlaw20.AtomPlays'. -/
def atomPlaysUptoCard : Claim7 := { stood := { row := atomPlaysUptoRow, standIns := [], harness := (true, "ac8ca059d3ef32ff152afb022e477dbd9da89cc9070a095830528d396ab458d5"), looks := false }, kinds := [], alts := [], laidByText := true, laidKinds := [.data], laidTests := true, laidLooks := .later }
def AtomPlaysUptoCardSaid : Prop := Claim7.holds Tryd.pinned (.plain (OpenSpec.upto atomPlaysSpec)) atomPlaysUptoCard

/-- THE SECOND FORM's CARD OF 'cachepotlaw20.AtomApart'. -/
def atomApartUptoCard : Claim7 := { stood := { row := atomApartUptoRow, standIns := [], harness := (true, "ac8ca059d3ef32ff152afb022e477dbd9da89cc9070a095830528d396ab458d5"), looks := false }, kinds := [], alts := [], laidByText := true, laidKinds := [.data], laidTests := true, laidLooks := .later }
def AtomApartUptoCardSaid : Prop := Claim7.holds Tryd.pinned (.plain (OpenSpec.upto atomApartSpec)) atomApartUptoCard
end Rows
end Go.Proofs.YtfdglmgblmoakaaDoor

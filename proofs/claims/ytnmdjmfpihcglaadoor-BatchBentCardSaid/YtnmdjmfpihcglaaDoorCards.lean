/-
  DERIVED. GIVEN WITH THE SEED: THE CARDS: each row of YtnmdjmfpihcglaaDoorRows.lean that lists a variable, with what it lists TIED to the program's text (the seventh form; the later family's looks); each row that meets fmt, with fmt's text TOLD by the authors' own Lean function (tested against real Go, not proved from fmt's source: count such statements apart). THE CARD IS WHAT COUNTS. Prove the row's statement (the work); the ties are given (YtnmdjmfpihcglaaDoorTie.lean); close each card by the builder's one call (the guide's Derived/Test/ToyasCard.lean, 'card_holds'). Laid BY PROGRAM, IN A SANDBOX (cutbox-door.mjs). By AI agents, Wed Nov 11 2026. No macro, syntax, notation, axiom, sorry.
-/
import Derived.Test.YtnmdjmfpihcglaaDoorRows
import GoSem.ClaimSeven
namespace Go.Proofs.YtnmdjmfpihcglaaDoor
namespace Rows

/-- THE TIED CARD OF 'cachepotlaw5.BatchRights'. -/
def batchRightsCard : Claim7 := { stood := { row := batchRightsRow, standIns := [], harness := (true, "2b8aca5a1537302b158cd234f6fef21a74733f3b021e48d91df170fe649015f4"), looks := false }, kinds := [], alts := [], laidByText := true, laidKinds := [.data, .pinned], laidTests := true, laidLooks := .later }
def BatchRightsCardSaid : Prop := Claim7.holds Tryd.pinned (.plain (OpenSpec.ofChange batchRightsSpec)) batchRightsCard

/-- THE TIED CARD OF 'cachepotlaw5.BatchLays'. -/
def batchLaysCard : Claim7 := { stood := { row := batchLaysRow, standIns := [], harness := (true, "2b8aca5a1537302b158cd234f6fef21a74733f3b021e48d91df170fe649015f4"), looks := false }, kinds := [], alts := [], laidByText := true, laidKinds := [.data, .pinned], laidTests := true, laidLooks := .later }
def BatchLaysCardSaid : Prop := Claim7.holds Tryd.pinned (.plain (OpenSpec.ofChange batchLaysSpec)) batchLaysCard

/-- THE TIED CARD OF 'cachepotlaw5.BatchReads'. -/
def batchReadsCard : Claim7 := { stood := { row := batchReadsRow, standIns := [], harness := (true, "2b8aca5a1537302b158cd234f6fef21a74733f3b021e48d91df170fe649015f4"), looks := false }, kinds := [], alts := [], laidByText := true, laidKinds := [.data, .pinned], laidTests := true, laidLooks := .later }
def BatchReadsCardSaid : Prop := Claim7.holds Tryd.pinned (.plain (OpenSpec.ofChange batchReadsSpec)) batchReadsCard

/-- THE TIED CARD OF 'cachepotlaw5.BatchBent'. -/
def batchBentCard : Claim7 := { stood := { row := batchBentRow, standIns := [], harness := (true, "2b8aca5a1537302b158cd234f6fef21a74733f3b021e48d91df170fe649015f4"), looks := false }, kinds := [], alts := [], laidByText := true, laidKinds := [.data, .pinned], laidTests := true, laidLooks := .later }
def BatchBentCardSaid : Prop := Claim7.holds Tryd.pinned (.plain (OpenSpec.ofChange batchBentSpec)) batchBentCard

/-- THE TIED CARD OF 'cachepotlaw5.BatchFinds'. -/
def batchFindsCard : Claim7 := { stood := { row := batchFindsRow, standIns := [], harness := (true, "2b8aca5a1537302b158cd234f6fef21a74733f3b021e48d91df170fe649015f4"), looks := false }, kinds := [], alts := [], laidByText := true, laidKinds := [.data, .pinned], laidTests := true, laidLooks := .later }
def BatchFindsCardSaid : Prop := Claim7.holds Tryd.pinned (.plain (OpenSpec.ofChange batchFindsSpec)) batchFindsCard

/-- THE TIED CARD OF 'cachepotlaw5.BatchMakes'. -/
def batchMakesCard : Claim7 := { stood := { row := batchMakesRow, standIns := [], harness := (true, "2b8aca5a1537302b158cd234f6fef21a74733f3b021e48d91df170fe649015f4"), looks := false }, kinds := [], alts := [], laidByText := true, laidKinds := [.data, .pinned], laidTests := true, laidLooks := .later }
def BatchMakesCardSaid : Prop := Claim7.holds Tryd.pinned (.plain (OpenSpec.ofChange batchMakesSpec)) batchMakesCard

/-- THE TIED CARD OF 'cachepotlaw5.BatchBack'. -/
def batchBackCard : Claim7 := { stood := { row := batchBackRow, standIns := [], harness := (true, "2b8aca5a1537302b158cd234f6fef21a74733f3b021e48d91df170fe649015f4"), looks := false }, kinds := [], alts := [], laidByText := true, laidKinds := [.data, .pinned], laidTests := true, laidLooks := .later }
def BatchBackCardSaid : Prop := Claim7.holds Tryd.pinned (.plain (OpenSpec.ofChange batchBackSpec)) batchBackCard

/-- THE SECOND FORM's CARD OF 'cachepotlaw5.BatchRights'. -/
def batchRightsUptoCard : Claim7 := { stood := { row := batchRightsUptoRow, standIns := [], harness := (true, "2b8aca5a1537302b158cd234f6fef21a74733f3b021e48d91df170fe649015f4"), looks := false }, kinds := [], alts := [], laidByText := true, laidKinds := [.data, .pinned], laidTests := true, laidLooks := .later }
def BatchRightsUptoCardSaid : Prop := Claim7.holds Tryd.pinned (.plain (OpenSpec.upto batchRightsSpec)) batchRightsUptoCard

/-- THE SECOND FORM's CARD OF 'cachepotlaw5.BatchLays'. -/
def batchLaysUptoCard : Claim7 := { stood := { row := batchLaysUptoRow, standIns := [], harness := (true, "2b8aca5a1537302b158cd234f6fef21a74733f3b021e48d91df170fe649015f4"), looks := false }, kinds := [], alts := [], laidByText := true, laidKinds := [.data, .pinned], laidTests := true, laidLooks := .later }
def BatchLaysUptoCardSaid : Prop := Claim7.holds Tryd.pinned (.plain (OpenSpec.upto batchLaysSpec)) batchLaysUptoCard

/-- THE SECOND FORM's CARD OF 'cachepotlaw5.BatchReads'. -/
def batchReadsUptoCard : Claim7 := { stood := { row := batchReadsUptoRow, standIns := [], harness := (true, "2b8aca5a1537302b158cd234f6fef21a74733f3b021e48d91df170fe649015f4"), looks := false }, kinds := [], alts := [], laidByText := true, laidKinds := [.data, .pinned], laidTests := true, laidLooks := .later }
def BatchReadsUptoCardSaid : Prop := Claim7.holds Tryd.pinned (.plain (OpenSpec.upto batchReadsSpec)) batchReadsUptoCard

/-- THE SECOND FORM's CARD OF 'cachepotlaw5.BatchBent'. -/
def batchBentUptoCard : Claim7 := { stood := { row := batchBentUptoRow, standIns := [], harness := (true, "2b8aca5a1537302b158cd234f6fef21a74733f3b021e48d91df170fe649015f4"), looks := false }, kinds := [], alts := [], laidByText := true, laidKinds := [.data, .pinned], laidTests := true, laidLooks := .later }
def BatchBentUptoCardSaid : Prop := Claim7.holds Tryd.pinned (.plain (OpenSpec.upto batchBentSpec)) batchBentUptoCard

/-- THE SECOND FORM's CARD OF 'cachepotlaw5.BatchFinds'. -/
def batchFindsUptoCard : Claim7 := { stood := { row := batchFindsUptoRow, standIns := [], harness := (true, "2b8aca5a1537302b158cd234f6fef21a74733f3b021e48d91df170fe649015f4"), looks := false }, kinds := [], alts := [], laidByText := true, laidKinds := [.data, .pinned], laidTests := true, laidLooks := .later }
def BatchFindsUptoCardSaid : Prop := Claim7.holds Tryd.pinned (.plain (OpenSpec.upto batchFindsSpec)) batchFindsUptoCard

/-- THE SECOND FORM's CARD OF 'cachepotlaw5.BatchMakes'. -/
def batchMakesUptoCard : Claim7 := { stood := { row := batchMakesUptoRow, standIns := [], harness := (true, "2b8aca5a1537302b158cd234f6fef21a74733f3b021e48d91df170fe649015f4"), looks := false }, kinds := [], alts := [], laidByText := true, laidKinds := [.data, .pinned], laidTests := true, laidLooks := .later }
def BatchMakesUptoCardSaid : Prop := Claim7.holds Tryd.pinned (.plain (OpenSpec.upto batchMakesSpec)) batchMakesUptoCard

/-- THE SECOND FORM's CARD OF 'cachepotlaw5.BatchBack'. -/
def batchBackUptoCard : Claim7 := { stood := { row := batchBackUptoRow, standIns := [], harness := (true, "2b8aca5a1537302b158cd234f6fef21a74733f3b021e48d91df170fe649015f4"), looks := false }, kinds := [], alts := [], laidByText := true, laidKinds := [.data, .pinned], laidTests := true, laidLooks := .later }
def BatchBackUptoCardSaid : Prop := Claim7.holds Tryd.pinned (.plain (OpenSpec.upto batchBackSpec)) batchBackUptoCard
end Rows
end Go.Proofs.YtnmdjmfpihcglaaDoor

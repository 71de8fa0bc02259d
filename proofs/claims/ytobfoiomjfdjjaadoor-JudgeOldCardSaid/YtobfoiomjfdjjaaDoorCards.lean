/-
  DERIVED. GIVEN WITH THE SEED: THE CARDS: each row of YtobfoiomjfdjjaaDoorRows.lean that lists a variable, with what it lists TIED to the program's text (the seventh form; the later family's looks); each row that meets fmt, with fmt's text TOLD by the authors' own Lean function (tested against real Go, not proved from fmt's source: count such statements apart). THE CARD IS WHAT COUNTS. Prove the row's statement (the work); the ties are given (YtobfoiomjfdjjaaDoorTie.lean); close each card by the builder's one call (the guide's Derived/Test/ToyasCard.lean, 'card_holds'). Laid BY PROGRAM, IN A SANDBOX (cutbox-door.mjs). By AI agents, Wed Nov 11 2026. No macro, syntax, notation, axiom, sorry.
-/
import Derived.Test.YtobfoiomjfdjjaaDoorRows
import GoSem.ClaimSeven
namespace Go.Proofs.YtobfoiomjfdjjaaDoor
namespace Rows

/-- THE TIED CARD OF 'cachepotlaw28.JudgeOld'. -/
def judgeOldCard : Claim7 := { stood := { row := judgeOldRow, standIns := [], harness := (true, "ab657181808484d717209276731b48f8b4ce06c8d4ee56372319419d5f593a90"), looks := false }, kinds := [], alts := [], laidByText := true, laidKinds := [.data, .data, .pinned], laidTests := true, laidLooks := .later }
def JudgeOldCardSaid : Prop := Claim7.holds Tryd.pinned (.plain (OpenSpec.ofChange judgeOldSpec)) judgeOldCard

/-- THE TIED CARD OF 'cachepotlaw28.JudgeNew'. -/
def judgeNewCard : Claim7 := { stood := { row := judgeNewRow, standIns := [], harness := (true, "ab657181808484d717209276731b48f8b4ce06c8d4ee56372319419d5f593a90"), looks := false }, kinds := [], alts := [], laidByText := true, laidKinds := [.data, .pinned], laidTests := true, laidLooks := .later }
def JudgeNewCardSaid : Prop := Claim7.holds Tryd.pinned (.plain (OpenSpec.ofChange judgeNewSpec)) judgeNewCard

/-- THE SECOND FORM's CARD OF 'cachepotlaw28.JudgeOld'. -/
def judgeOldUptoCard : Claim7 := { stood := { row := judgeOldUptoRow, standIns := [], harness := (true, "ab657181808484d717209276731b48f8b4ce06c8d4ee56372319419d5f593a90"), looks := false }, kinds := [], alts := [], laidByText := true, laidKinds := [.data, .data, .pinned], laidTests := true, laidLooks := .later }
def JudgeOldUptoCardSaid : Prop := Claim7.holds Tryd.pinned (.plain (OpenSpec.upto judgeOldSpec)) judgeOldUptoCard

/-- THE SECOND FORM's CARD OF 'cachepotlaw28.JudgeNew'. -/
def judgeNewUptoCard : Claim7 := { stood := { row := judgeNewUptoRow, standIns := [], harness := (true, "ab657181808484d717209276731b48f8b4ce06c8d4ee56372319419d5f593a90"), looks := false }, kinds := [], alts := [], laidByText := true, laidKinds := [.data, .pinned], laidTests := true, laidLooks := .later }
def JudgeNewUptoCardSaid : Prop := Claim7.holds Tryd.pinned (.plain (OpenSpec.upto judgeNewSpec)) judgeNewUptoCard
end Rows
end Go.Proofs.YtobfoiomjfdjjaaDoor

/-
  DERIVED. GIVEN WITH THE SEED: THE CARDS: each row of YthoimblkpcikdaaGreatDoorRows.lean that lists a variable, with what it lists TIED to the program's text (the seventh form; the later family's looks); each row that meets fmt, with fmt's text TOLD by the authors' own Lean function (tested against real Go, not proved from fmt's source: count such statements apart). THE CARD IS WHAT COUNTS. Prove the row's statement (the work); the ties are given (YthoimblkpcikdaaGreatDoorTie.lean); close each card by the builder's one call (the guide's Derived/Test/ToyasCard.lean, 'card_holds'). Laid BY PROGRAM, IN A SANDBOX (cutbox-door.mjs). By AI agents, Wed Nov 11 2026. No macro, syntax, notation, axiom, sorry.
-/
import Derived.Test.YthoimblkpcikdaaGreatDoorRows
import GoSem.ClaimSeven
namespace Go.Proofs.YthoimblkpcikdaaGreatDoor
namespace Rows

/-- THE TIED CARD OF 'cachepotlaw14.ChainKeeps'. -/
def chainKeepsCard : Claim7 := { stood := { row := chainKeepsRow, standIns := [], harness := (true, "7d5ab780ba58315fe808fd14c7fc547581494fea15adb94db074536f48e641f2"), looks := true }, kinds := [], alts := [], laidByText := true, laidKinds := [.data, .data, .pinned], laidTests := true, laidLooks := .later }
def ChainKeepsCardSaid : Prop := Claim7.holds Tryz.pinned (.plain (OpenSpec.ofChange chainKeepsSpec)) chainKeepsCard

/-- THE TIED CARD OF 'cachepotlaw14.ChainRaw'. -/
def chainRawCard : Claim7 := { stood := { row := chainRawRow, standIns := [], harness := (true, "7d5ab780ba58315fe808fd14c7fc547581494fea15adb94db074536f48e641f2"), looks := true }, kinds := [], alts := [], laidByText := true, laidKinds := [.data, .data, .pinned], laidTests := true, laidLooks := .later }
def ChainRawCardSaid : Prop := Claim7.holds Tryz.pinned (.plain (OpenSpec.ofChange chainRawSpec)) chainRawCard

/-- THE TIED CARD OF 'cachepotlaw14.ChainLinks'. -/
def chainLinksCard : Claim7 := { stood := { row := chainLinksRow, standIns := [], harness := (true, "7d5ab780ba58315fe808fd14c7fc547581494fea15adb94db074536f48e641f2"), looks := true }, kinds := [], alts := [], laidByText := true, laidKinds := [.data, .data, .pinned], laidTests := true, laidLooks := .later }
def ChainLinksCardSaid : Prop := Claim7.holds Tryz.pinned (.plain (OpenSpec.ofChange chainLinksSpec)) chainLinksCard

/-- THE TIED CARD OF 'cachepotlaw14.ChainOrder'. -/
def chainOrderCard : Claim7 := { stood := { row := chainOrderRow, standIns := [], harness := (true, "7d5ab780ba58315fe808fd14c7fc547581494fea15adb94db074536f48e641f2"), looks := true }, kinds := [], alts := [], laidByText := true, laidKinds := [.data, .data, .pinned], laidTests := true, laidLooks := .later }
def ChainOrderCardSaid : Prop := Claim7.holds Tryz.pinned (.plain (OpenSpec.ofChange chainOrderSpec)) chainOrderCard

/-- THE TIED CARD OF 'cachepotlaw14.ChainFloor'. -/
def chainFloorCard : Claim7 := { stood := { row := chainFloorRow, standIns := [], harness := (true, "7d5ab780ba58315fe808fd14c7fc547581494fea15adb94db074536f48e641f2"), looks := true }, kinds := [], alts := [], laidByText := true, laidKinds := [.data, .data, .pinned], laidTests := true, laidLooks := .later }
def ChainFloorCardSaid : Prop := Claim7.holds Tryz.pinned (.plain (OpenSpec.ofChange chainFloorSpec)) chainFloorCard

/-- THE SECOND FORM's CARD OF 'cachepotlaw14.ChainKeeps'. -/
def chainKeepsUptoCard : Claim7 := { stood := { row := chainKeepsUptoRow, standIns := [], harness := (true, "7d5ab780ba58315fe808fd14c7fc547581494fea15adb94db074536f48e641f2"), looks := true }, kinds := [], alts := [], laidByText := true, laidKinds := [.data, .data, .pinned], laidTests := true, laidLooks := .later }
def ChainKeepsUptoCardSaid : Prop := Claim7.holds Tryz.pinned (.plain (OpenSpec.upto chainKeepsSpec)) chainKeepsUptoCard

/-- THE SECOND FORM's CARD OF 'cachepotlaw14.ChainRaw'. -/
def chainRawUptoCard : Claim7 := { stood := { row := chainRawUptoRow, standIns := [], harness := (true, "7d5ab780ba58315fe808fd14c7fc547581494fea15adb94db074536f48e641f2"), looks := true }, kinds := [], alts := [], laidByText := true, laidKinds := [.data, .data, .pinned], laidTests := true, laidLooks := .later }
def ChainRawUptoCardSaid : Prop := Claim7.holds Tryz.pinned (.plain (OpenSpec.upto chainRawSpec)) chainRawUptoCard

/-- THE SECOND FORM's CARD OF 'cachepotlaw14.ChainLinks'. -/
def chainLinksUptoCard : Claim7 := { stood := { row := chainLinksUptoRow, standIns := [], harness := (true, "7d5ab780ba58315fe808fd14c7fc547581494fea15adb94db074536f48e641f2"), looks := true }, kinds := [], alts := [], laidByText := true, laidKinds := [.data, .data, .pinned], laidTests := true, laidLooks := .later }
def ChainLinksUptoCardSaid : Prop := Claim7.holds Tryz.pinned (.plain (OpenSpec.upto chainLinksSpec)) chainLinksUptoCard

/-- THE SECOND FORM's CARD OF 'cachepotlaw14.ChainOrder'. -/
def chainOrderUptoCard : Claim7 := { stood := { row := chainOrderUptoRow, standIns := [], harness := (true, "7d5ab780ba58315fe808fd14c7fc547581494fea15adb94db074536f48e641f2"), looks := true }, kinds := [], alts := [], laidByText := true, laidKinds := [.data, .data, .pinned], laidTests := true, laidLooks := .later }
def ChainOrderUptoCardSaid : Prop := Claim7.holds Tryz.pinned (.plain (OpenSpec.upto chainOrderSpec)) chainOrderUptoCard

/-- THE SECOND FORM's CARD OF 'cachepotlaw14.ChainFloor'. -/
def chainFloorUptoCard : Claim7 := { stood := { row := chainFloorUptoRow, standIns := [], harness := (true, "7d5ab780ba58315fe808fd14c7fc547581494fea15adb94db074536f48e641f2"), looks := true }, kinds := [], alts := [], laidByText := true, laidKinds := [.data, .data, .pinned], laidTests := true, laidLooks := .later }
def ChainFloorUptoCardSaid : Prop := Claim7.holds Tryz.pinned (.plain (OpenSpec.upto chainFloorSpec)) chainFloorUptoCard
end Rows
end Go.Proofs.YthoimblkpcikdaaGreatDoor

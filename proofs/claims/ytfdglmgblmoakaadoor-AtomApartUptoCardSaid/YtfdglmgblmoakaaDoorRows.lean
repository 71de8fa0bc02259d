/-
  NARROWER THAN 'FOR EVERY INPUT', by the rows' own cells (each row's printed sentence says how): AtomForgets: laid · AtomPlays: laid · AtomApart: laid.
  DERIVED. THE GIVEN ROWS OF THIS SEAT. 3 by the template 'for every input the law returns true; each argument reads behind the call as it read before'; 0 by the template 'total and deterministic' (their statements: YtfdglmgblmoakaaDoorTotals.lean).
  GIVEN WITH THE SEED: the statements are not yours to turn. If you find one false, say at which input.
  Laid BY PROGRAM, IN A SANDBOX (cutbox-rows.mjs): the forced cells as the released guide's own fill.sh prints them over the translation ce5ff4bc51063c91… (all of the seat's roots in one cut). By AI agents, Wed Nov 11 2026. No macro, syntax, notation, axiom, sorry.
-/
import Derived.Test.YtfdglmgblmoakaaDoorChecked
import GoSem.Claim
import GoSem.ClaimJoined
import GoSem.ClaimMapViews
import Derived.JoinedTies
import Derived.KernelRfl
namespace Go.Proofs.YtfdglmgblmoakaaDoor
/- THE CELL 'sum', in the pinned program and in every row, IS THE sha256 OF THE DUMP (.gsa) THAT YtfdglmgblmoakaaDoorProg.lean LOADS. Nothing in Lean hashes anything: it is a label: what it is worth is what the hold of that sum in a sandbox is worth. -/
noncomputable def Tryd.pinned : Pinned := { name := "ytfdglmgblmoakaadoor", sum := "ce5ff4bc51063c914118f0f391f066136661d06b1180751edab60c48f21b4a31", checked := Tryd.checked }
namespace Rows
def none {H : Type} : Left H := { results := [], args := [] }

/- WHAT THE LISTED PACKAGE-LEVEL VARIABLES READ AS WHEN THE CALL BEGINS. Each datum BY PROGRAM (the guide's laid-datum.mjs) off the statement by which the dump's own 'gosem.cut.vars' lays the variable. In a bare row this is a premise. The card (YtfdglmgblmoakaaDoorCards.lean) ties it to the program's text. -/
def laid_cachepot_cachepothand_names {H : Type} : DataW H := .agg [.lit (.string [97]), .lit (.string [98]), .lit (.string [99]), .lit (.string [97, 98]), .lit (.string [107, 49]), .lit (.string [107, 50]), .lit (.string [107, 51]), .lit (.string [195, 169]), .lit (.string [195, 169, 97]), .lit (.string [240, 159, 152, 128]), .lit (.string [42]), .lit (.string [122, 122])]

/-- 'cachepotlaw20.AtomForgets': WHATEVER THE INPUT: true; the input reads as it did. -/
def atomForgetsSpec : ChangeSpec := { name := "atomForgets", fn := fun _ => fun
  | [d1, d2, d3] => { results := [.lit (.bool true)], args := [d1, d2, d3] }
  | _ => none }
def atomForgetsRow : OpenClaim := { program := "ytfdglmgblmoakaadoor", sum := "ce5ff4bc51063c914118f0f391f066136661d06b1180751edab60c48f21b4a31", func := "cachepot/cachepotlaw20.AtomForgets", spec := "atomForgets", named := ["cachepot/cachepothand.names"], apart := false, laid := [("cachepot/cachepothand.names", laid_cachepot_cachepothand_names)] }
def AtomForgetsSaid : Prop := atomForgetsRow.holds Tryd.pinned (OpenSpec.ofChange atomForgetsSpec)

/-- ITS FALSE NEIGHBOUR: 'it returns false'. Refute it at one input. -/
def atomForgetsWrong : ChangeSpec := { name := "atomForgets", fn := fun _ => fun
  | [d1, d2, d3] => { results := [.lit (.bool false)], args := [d1, d2, d3] }
  | _ => none }
def AtomForgetsWrongFalsely : Prop := atomForgetsRow.holds Tryd.pinned (OpenSpec.ofChange atomForgetsWrong)

/-- 'cachepotlaw20.AtomPlays': WHATEVER THE INPUT: true; the input reads as it did. -/
def atomPlaysSpec : ChangeSpec := { name := "atomPlays", fn := fun _ => fun
  | [d] => { results := [.lit (.bool true)], args := [d] }
  | _ => none }
def atomPlaysRow : OpenClaim := { program := "ytfdglmgblmoakaadoor", sum := "ce5ff4bc51063c914118f0f391f066136661d06b1180751edab60c48f21b4a31", func := "cachepot/cachepotlaw20.AtomPlays", spec := "atomPlays", inPlace := ["internal/bytealg.abigen_runtime_cmpstring"], unfollowed := true, recurses := true, named := ["cachepot/cachepothand.names"], apart := false, laid := [("cachepot/cachepothand.names", laid_cachepot_cachepothand_names)] }
def AtomPlaysSaid : Prop := atomPlaysRow.holds Tryd.pinned (OpenSpec.ofChange atomPlaysSpec)

/-- ITS FALSE NEIGHBOUR: 'it returns false'. Refute it at one input. -/
def atomPlaysWrong : ChangeSpec := { name := "atomPlays", fn := fun _ => fun
  | [d] => { results := [.lit (.bool false)], args := [d] }
  | _ => none }
def AtomPlaysWrongFalsely : Prop := atomPlaysRow.holds Tryd.pinned (OpenSpec.ofChange atomPlaysWrong)

/-- 'cachepotlaw20.AtomApart': WHATEVER THE INPUT: true; the input reads as it did. -/
def atomApartSpec : ChangeSpec := { name := "atomApart", fn := fun _ => fun
  | [d1, d2] => { results := [.lit (.bool true)], args := [d1, d2] }
  | _ => none }
def atomApartRow : OpenClaim := { program := "ytfdglmgblmoakaadoor", sum := "ce5ff4bc51063c914118f0f391f066136661d06b1180751edab60c48f21b4a31", func := "cachepot/cachepotlaw20.AtomApart", spec := "atomApart", inPlace := ["internal/bytealg.abigen_runtime_cmpstring"], unfollowed := true, recurses := true, named := ["cachepot/cachepothand.names"], apart := false, laid := [("cachepot/cachepothand.names", laid_cachepot_cachepothand_names)] }
def AtomApartSaid : Prop := atomApartRow.holds Tryd.pinned (OpenSpec.ofChange atomApartSpec)

/-- ITS FALSE NEIGHBOUR: 'it returns false'. Refute it at one input. -/
def atomApartWrong : ChangeSpec := { name := "atomApart", fn := fun _ => fun
  | [d1, d2] => { results := [.lit (.bool false)], args := [d1, d2] }
  | _ => none }
def AtomApartWrongFalsely : Prop := atomApartRow.holds Tryd.pinned (OpenSpec.ofChange atomApartWrong)

/- THE SECOND FORM. 'bulk': how many values and letters a reading holds, each counted each time it is reached (what is shared counts as often as it is met; a slice's spare places count too). A statement '..UptoSaid' is the law's where the arguments, and the package variables that the reading takes, are together of bulk at most 1048576: NARROWER than '..Said'. Prove '..Said' where nothing that the law and all that it calls make is longer than what came in: it says more and counts as full. Else prove '..UptoSaid'. A law counts once. -/
mutual
def uptoBulk {H : Type} : DataW H → Nat
  | .lit (.string bytes) => bytes.length + 1
  | .lit _ => 1
  | .nil => 1
  | .ptr d => uptoBulk d + 1
  | .slice elems spare => uptoBulkAll elems + uptoBulkAll spare + 1
  | .agg parts => uptoBulkAll parts + 1
  | .iface _ d => uptoBulk d + 1
  | .map entries => uptoBulkEntries entries + 1
  | .held _ => 1
def uptoBulkAll {H : Type} : List (DataW H) → Nat
  | [] => 0
  | d :: r => uptoBulk d + uptoBulkAll r
def uptoBulkEntries {H : Type} : List (Lit × DataW H) → Nat
  | [] => 0
  | x :: r => uptoBulkEntry x + uptoBulkEntries r
def uptoBulkEntry {H : Type} : Lit × DataW H → Nat
  | (.string bytes, d) => bytes.length + uptoBulk d + 1
  | (_, d) => uptoBulk d + 1
 end
def uptoSmall : (H : Type) → List (DataW H) → Bool := fun _ ds => decide (uptoBulkAll ds ≤ 1048576)
def OpenSpec.upto (s : _root_.Go.ChangeSpec) : _root_.Go.OpenSpec := { _root_.Go.OpenSpec.ofChange s with cond := some uptoSmall }

/-- 'cachepotlaw20.AtomForgets', WHERE WHAT IT READS IS OF BULK AT MOST 1048576: true; the input reads as it did. -/
def atomForgetsUptoRow : OpenClaim := { program := "ytfdglmgblmoakaadoor", sum := "ce5ff4bc51063c914118f0f391f066136661d06b1180751edab60c48f21b4a31", func := "cachepot/cachepotlaw20.AtomForgets", spec := "atomForgets", named := ["cachepot/cachepothand.names"], apart := false, laid := [("cachepot/cachepothand.names", laid_cachepot_cachepothand_names)], narrowed := true }
def AtomForgetsUptoSaid : Prop := atomForgetsUptoRow.holds Tryd.pinned (OpenSpec.upto atomForgetsSpec)

/-- 'cachepotlaw20.AtomPlays', WHERE WHAT IT READS IS OF BULK AT MOST 1048576: true; the input reads as it did. -/
def atomPlaysUptoRow : OpenClaim := { program := "ytfdglmgblmoakaadoor", sum := "ce5ff4bc51063c914118f0f391f066136661d06b1180751edab60c48f21b4a31", func := "cachepot/cachepotlaw20.AtomPlays", spec := "atomPlays", inPlace := ["internal/bytealg.abigen_runtime_cmpstring"], unfollowed := true, recurses := true, named := ["cachepot/cachepothand.names"], apart := false, laid := [("cachepot/cachepothand.names", laid_cachepot_cachepothand_names)], narrowed := true }
def AtomPlaysUptoSaid : Prop := atomPlaysUptoRow.holds Tryd.pinned (OpenSpec.upto atomPlaysSpec)

/-- 'cachepotlaw20.AtomApart', WHERE WHAT IT READS IS OF BULK AT MOST 1048576: true; the input reads as it did. -/
def atomApartUptoRow : OpenClaim := { program := "ytfdglmgblmoakaadoor", sum := "ce5ff4bc51063c914118f0f391f066136661d06b1180751edab60c48f21b4a31", func := "cachepot/cachepotlaw20.AtomApart", spec := "atomApart", inPlace := ["internal/bytealg.abigen_runtime_cmpstring"], unfollowed := true, recurses := true, named := ["cachepot/cachepothand.names"], apart := false, laid := [("cachepot/cachepothand.names", laid_cachepot_cachepothand_names)], narrowed := true }
def AtomApartUptoSaid : Prop := atomApartUptoRow.holds Tryd.pinned (OpenSpec.upto atomApartSpec)

end Rows
end Go.Proofs.YtfdglmgblmoakaaDoor

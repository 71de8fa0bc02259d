/- ShelfNone: the statement, out of what its functions compute and the plain law (PureShelfNone). -/
import Derived.Test.YtnjkfchgakpjgaaRows
import Derived.Test.YtnjkfchgakpjgaaPureShelfNone
import Derived.WalkKit
import Derived.ProofKit
import Derived.OpenShut
import Derived.ShutString
import Derived.ChangeOld
import Derived.Below
import Derived.SizedLaws
namespace Go.Proofs.Ytnjkfchgakpjgaa.shelfNone
open Go.ChangeShapes Go.WideShapes Go.ChangeAt Go.RowKit
open Go.Proofs.Ytnjkfchgakpjgaa.Mc (row_calls holdsG_nil argsSh trodAll_stay readable gdT Gd Tup)
set_option linter.unusedVariables false
theorem own : ownKnob Try.prog.godebug = none := by kernel_rfl
instance mo : Go.Proofs.Ytnjkfchgakpjgaa.Mc.Mo := ⟨false⟩
set_option maxRecDepth 100000 in
theorem lifted (os : Os) (started : os.Started) (H : Type) (enc : TypeId × Value → H) :
    ReturnsInHanded {} Try.checked os 3 .any (Rows.shelfNoneSpec.pre6 enc Try.prog Try.f3 Rows.shelfNoneRow.domain false) (Rows.shelfNoneSpec.post enc Try.prog Try.f3 false true false false) := by
  refine returnsInHanded_of_change_sized (C := Try.checked) own started (by kernel_rfl) Try.func3
    (ChangeSpec.witness6 (enc := enc) (C := Try.checked) false ⟨#[], #[.string ByteArray.empty, .int .u32 0], []⟩ 8 (by kernel_rfl) (by kernel_rfl) (by kernel_rfl) (by kernel_rfl)) ?_
  intro W base args ds gs before hval0 hW hcnd hsz0 _
  have hval : ∀ (j : Nat) t v, Try.f3.params.toList[j]? = some t → args[j]? = some v → Value.okWide Try.prog W .any base t v := fun j t v h => hval0 j t v (by simpa using h)
  have hW' := hW
  obtain ⟨p, q, hA0, hV, rfl, hfz, hnd⟩ := hW
  have hA : DataW.TrodAll enc Try.prog W 0 (fun _ => true) true Try.f3.params.toList args.toList ds p := hA0
  obtain ⟨rfl, rfl⟩ := trodVars_none hV
  have hL := hA
  rw [show Try.f3.params.toList = [9, 22] from rfl] at hL
  obtain ⟨_, _, d0, _, _, _, _, rfl, _, _, hL⟩ := trodAll_cons hL
  obtain ⟨_, _, d1, _, _, _, _, rfl, _, _, hL⟩ := trodAll_cons hL
  obtain ⟨_, rfl, _⟩ := trodAll_nil hL
  refine (row_calls (holdsG_nil rfl _) (n := 30) (gs := [.str, .int .u32]) (ss := N.A3.a) (by kernel_rfl) (fun y gy => ?_) hval hA).mono fun e W' ⟨he, bel⟩ => ?_
  · obtain ⟨k, hk⟩ := PureShelfNone.law y.1 y.2 gy
    exact (N.C3 k).ok y true hk
  subst he
  exact ⟨_, rfl, _, _, _, [], _, [], hW', trodAll_mk1 (shut_bool Try.underlying4 _), trodAll_stay (by kernel_rfl) bel (by kernel_rfl) hA, rfl, bel.frame _, fun h => by cases h⟩
theorem over : Rows.shelfNoneRow.holds Try.pinned (OpenSpec.ofChange Rows.shelfNoneSpec) :=
  OpenClaim.holds_of_wide 3 Try.f3 rfl rfl rfl rfl rfl rfl rfl ⟨rfl, rfl, rfl, rfl, rfl⟩ rfl rfl rfl rfl rfl (by kernel_rfl) Try.func3 (by kernel_rfl)
    (of_decide_eq_true (by kernel_rfl)) (by unfold Func.isWrapper; first | (rw [if_pos (by decide +kernel)]; kernel_rfl) | (rw [if_neg (by decide +kernel)]; exact ⟨rfl, rfl⟩))
    (fun os started H enc _ => lifted os started H enc)
theorem proved : Rows.ShelfNoneSaid := over
#print axioms proved
end Go.Proofs.Ytnjkfchgakpjgaa.shelfNone
namespace Go.Proofs.Ytnjkfchgakpjgaa
/-- The row, under a short name, for the claim. -/
theorem shelfNone_holds : Rows.ShelfNoneSaid := shelfNone.proved
end Go.Proofs.Ytnjkfchgakpjgaa

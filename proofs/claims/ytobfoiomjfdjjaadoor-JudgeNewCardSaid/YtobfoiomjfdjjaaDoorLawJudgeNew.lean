/- JudgeNew: the statement and its card, out of what its functions compute and the plain law (PureJudgeNew). -/
import Derived.Test.YtobfoiomjfdjjaaDoorCards
import Derived.Test.YtobfoiomjfdjjaaDoorTie
import Derived.Test.YtobfoiomjfdjjaaDoorPureJudgeNew
import Derived.WalkKit
import Derived.ProofKit
import Derived.OpenShut
import Derived.ShutString
import Derived.ChangeOld
import Derived.Below
import Derived.SizedLaws
import Derived.Deep.DeepHandedRow
import Derived.Lib.LaidU8
namespace Go.Proofs.YtobfoiomjfdjjaaDoor.judgeNew
open Go.ChangeShapes Go.WideShapes Go.ChangeAt Go.RowKit
open Go.ChangeMaps (open_string shut_string)
open Go.Proofs.YtobfoiomjfdjjaaDoor.Mc (CTd relL_nil relL_cons relV_int relV_str relV_bl HoldsG holdsG_u8 noG_none CTd.calls row_calls row_calls_upto argsSh trodAll_stay readable gdT Gd Tup)
set_option linter.unusedVariables false
theorem own : ownKnob Tryd.prog.godebug = none := by kernel_rfl
theorem firstEq : Rows.laid_unicode_utf8_first = Lib.firstData := by kernel_rfl
theorem accEq : (Rows.laid_unicode_utf8_acceptRanges : DataW Unit) = Lib.acceptData := by kernel_rfl
theorem tabs {W : World} (h : laidMetH Tryd.prog Rows.judgeNewRow.laid W) : Lib.Utf8Tabs 2 3 W := by
  have hM : laidMet Tryd.prog Rows.judgeNewRow.laid W := h
  have r4 := Lib.laidMet.reads hM (n := "unicode/utf8.acceptRanges") (d := Rows.laid_unicode_utf8_acceptRanges) (.head _)
  have r3 := Lib.laidMet.reads hM (n := "unicode/utf8.first") (d := Rows.laid_unicode_utf8_first) (.tail _ (.head _))
  rw [firstEq] at r3
  rw [accEq] at r4
  exact utf8Tabs_of_reads Tryd.lays260 ⟨by kernel_rfl, by kernel_rfl, by kernel_rfl, by kernel_rfl, by kernel_rfl, by kernel_rfl, by kernel_rfl⟩ r3 r4
instance mo : Go.Proofs.YtobfoiomjfdjjaaDoor.Mc.Mo := ⟨false⟩
theorem holds {W : World} (h : laidMetH Tryd.prog Rows.judgeNewRow.laid W) : HoldsG W :=
  holdsG_u8 (g3 := 2) (g4 := 3) (by kernel_rfl) (by kernel_rfl) (fun g h0 h1 => noG_none fun p hp => by
    rcases List.mem_cons.1 hp with rfl | hp
    · exact h0
    · rcases List.mem_cons.1 hp with rfl | hp
      · exact h1
      · cases hp) (tabs h)
set_option maxRecDepth 100000 in
theorem contract (H : Type) (enc : TypeId × Value → H) (W : World) (base : Nat) (args : Array Value) (ds gs : List (DataW H)) (before : List MemPlace)
    (hval : ∀ (j : Nat) t v, Tryd.f4.params[j]? = some t → args[j]? = some v → Value.okWide Tryd.prog W .any base t v)
    (hW : DataW.Whole enc Tryd.prog Tryd.f4.params.toList Rows.judgeNewSpec.vars false W args.toList ds gs before) (hL : laidMetH Tryd.prog Rows.judgeNewRow.laid W) :
    Calls Tryd.prog 4 args W fun e W' => ∃ v, e = .returned v ∧ Rows.judgeNewSpec.post enc Tryd.prog Tryd.f4 false true false false W args v W' := by
  have hW' := hW
  obtain ⟨p, q, hA0, hV, rfl, hfz, hnd⟩ := hW
  have hA : DataW.TrodAll enc Tryd.prog W 0 (fun _ => true) true Tryd.f4.params.toList args.toList ds p := hA0
  obtain ⟨rfl, rfl⟩ := trodVars_none hV
  simp only [List.append_nil] at hW'
  have hD := hA
  rw [show Tryd.f4.params.toList = [23, 4] from rfl] at hD
  obtain ⟨_, _, d0, _, _, _, _, rfl, _, _, hD⟩ := trodAll_cons hD
  obtain ⟨_, _, d1, _, _, _, _, rfl, _, _, hD⟩ := trodAll_cons hD
  obtain ⟨_, rfl, _⟩ := trodAll_nil hD
  refine (row_calls (holds hL) (n := 30) (gs := [.int .i64, .int .i64, .int .i64, .bool]) (ss := N.A4.a) (by kernel_rfl) (fun y gy => ?_) (fun j t v h => hval j t v (by simpa using h)) hA).mono fun e W' ⟨he, bel⟩ => ?_
  · obtain ⟨k, hk⟩ := PureJudgeNew.law y.1 y.2.1 y.2.2.1 y.2.2.2 gy
    exact (N.C4 k).ok y true hk
  subst he
  exact ⟨_, rfl, _, _, _, [], _, [], hW', trodAll_mk1 (shut_bool Tryd.underlying4 _), trodAll_stay (by kernel_rfl) bel (by kernel_rfl) hA, rfl, bel.frame _, fun h => by cases h⟩
/-- A world for the witness: the settled one, the two tables as they are laid. -/
noncomputable def laidWorld (os : Os) : World :=
  let w0 := World.holding Tryd.prog os ⟨#[], #[], []⟩
  let put (h : Array Obj) (g : Nat) (cs : Array Value) : Array Obj := h.modify g fun
    | .cells _ t frozen => .cells cs t frozen
    | o => o
  let h0 := w0.heap
  let h1 := put h0 2 (Lib.firstTab.map fun z => Value.int .u8 z).toArray
  let h2 := put h1 3 ((List.range 16).flatMap fun i => [Value.int .u8 (Lib.accLo i), Value.int .u8 (Lib.accHi i)]).toArray
  { w0 with heap := h2 }
theorem laid_met (os : Os) : laidMet Tryd.prog Rows.judgeNewRow.laid ((laidWorld os).forCall (fun _ _ => 0) ⟨#[], #[.agg #[.int .i64 0, .int .i64 0, .int .i64 0], .bool false], []⟩).memory :=
  laidMet_of_run' 8 (by kernel_rfl) (by kernel_rfl)
theorem reads (os : Os) {H : Type} (enc : TypeId × Value → H) : ∃ places, DataW.whole enc Tryd.prog ((laidWorld os).forCall (fun _ _ => 0) ⟨#[], #[.agg #[.int .i64 0, .int .i64 0, .int .i64 0], .bool false], []⟩).memory Tryd.f4.params.toList Rows.judgeNewSpec.vars false (#[.agg #[.int .i64 0, .int .i64 0, .int .i64 0], .bool false] : Array Value).toList 8 = some ([.agg [.lit (.int .i64 0), .lit (.int .i64 0), .lit (.int .i64 0)], .lit (.bool false)], [], places) :=
  ⟨[], by kernel_rfl⟩
set_option maxRecDepth 100000 in
theorem lifted (os : Os) (started : os.Started) (H : Type) (enc : TypeId × Value → H) (F : Stop.Interp) :
    ReturnsInHanded {} Tryd.checked os 4 .any ((OpenSpec.ofChange Rows.judgeNewSpec).preRow enc Tryd.prog Tryd.f4 Rows.judgeNewRow.domain false Rows.judgeNewRow.laid) (((OpenSpec.ofChange Rows.judgeNewSpec).at F).post enc Tryd.prog Tryd.f4 false true false false) := by
  obtain ⟨places, hx⟩ := reads os enc
  refine returnsInHanded_of_row (C := Tryd.checked) (s := OpenSpec.ofChange Rows.judgeNewSpec) own started (by kernel_rfl) Tryd.func4
    (witness_row_at (enc := enc) (C := Tryd.checked) false (laidWorld os) #[.agg #[.int .i64 0, .int .i64 0, .int .i64 0], .bool false] rfl (by kernel_rfl) (by kernel_rfl) (by kernel_rfl)
      (OpenSpec.preRow_of_cond 8 hx (by kernel_rfl) (fun k hk => by cases hk) (by kernel_rfl) (laid_met os))) ?_
  intro W base args ds gs before hval hW _ hcond _ hL _ _
  exact contract H enc W base args ds gs before hval hW hL
theorem said : Rows.JudgeNewSaid :=
  OpenClaim.holds_of_cond 4 Tryd.f4 rfl rfl rfl rfl rfl rfl rfl ⟨rfl, rfl, rfl, rfl, rfl⟩ rfl rfl rfl rfl rfl (by kernel_rfl) Tryd.func4 (by kernel_rfl)
    (of_decide_eq_true (by kernel_rfl)) (by unfold Func.isWrapper; first | (rw [if_pos (by decide +kernel)]; kernel_rfl) | (rw [if_neg (by decide +kernel)]; exact ⟨rfl, rfl⟩))
    (fun os started H enc _ F => by rw [OpenClaim.pre_eq_preRow]; exact lifted os started H enc F)
theorem plain (f : FuncId) (fn : Func) (hf : Tryd.pinned.checked.prog.funcNamed "cachepot/cachepotlaw28.JudgeNew" = some f) (hfn : Tryd.pinned.checked.prog.funcs[f]? = some fn) :
    false = Tryd.pinned.checked.prog.looks [] ∧ ∀ (j : Nat) t, fn.params[j]? = some t → Tryd.pinned.checked.prog.wantsStandIn t = false := by
  obtain rfl : f = 4 := Option.some.inj ((show Tryd.prog.funcNamed "cachepot/cachepotlaw28.JudgeNew" = some 4 by kernel_rfl).symm.trans hf) |>.symm
  obtain rfl : fn = Tryd.f4 := (Option.some.inj (Tryd.func4.symm.trans hfn)).symm
  refine ⟨by kernel_rfl, fun j t ht => ?_⟩
  rw [Tryd.params4] at ht
  have hm : t ∈ [23, 4] := by simpa using Array.mem_of_getElem? ht
  have hall : ([23, 4].all fun u => !Tryd.prog.wantsStandIn u) = true := by kernel_rfl
  exact (show Tryd.prog.wantsStandIn t = false by simpa using List.all_eq_true.1 hall t hm)
theorem proved : Rows.JudgeNewCardSaid :=
  Claim7.holds_tied_plain_at .later [] _ _ _ _ said (fun _ h => by cases h) (by kernel_rfl) (fun _ h => by cases h) judgeNew_row_tie rfl ⟨rfl, rfl⟩ (by kernel_rfl) rfl plain (by kernel_rfl)
#print axioms proved
end Go.Proofs.YtobfoiomjfdjjaaDoor.judgeNew
namespace Go.Proofs.YtobfoiomjfdjjaaDoor
/-- The card, under a short name, for the claim. -/
theorem judgeNew_holds : Rows.JudgeNewCardSaid := judgeNew.proved
end Go.Proofs.YtobfoiomjfdjjaaDoor

/- GroupCuts' plain law. -/
import Derived.Test.YtlnadpijicfceaaDoorPShaped
namespace Go.Proofs.YtlnadpijicfceaaDoor.PureGroupCuts
open Go.RowKit Go.Proofs.YtlnadpijicfceaaDoor.Mc Go.Proofs.YtlnadpijicfceaaDoor.N Go.Proofs.YtlnadpijicfceaaDoor.Plain Go.Proofs.YtlnadpijicfceaaDoor.PJoin Go.Proofs.YtlnadpijicfceaaDoor.PCut Go.Proofs.YtlnadpijicfceaaDoor.PShaped Go.Proofs.YtlnadpijicfceaaDoor.PBatch1 Go.Proofs.YtlnadpijicfceaaDoor.PBatch2
open Go.Proofs.YtlnadpijicfceaaDoor.PBook (writes_run sw)
set_option linter.unusedSimpArgs false
set_option linter.unusedVariables false
theorem same1_run (K : Nat) (l : List Fr) (hK : l.length < K) (hl : l.length ≤ 1000000) : F16_1 K l l = some true := by
  unfold F16_1
  rw [show ((l.length : Int) != (l.length : Int)) = false by simp, cond_false]
  rw [loop_go (r := (.inr ())) (fun i => (i : Int)) l.length (by rfl) hK ?_ ?_]
  · rfl
  · intro i hi
    unfold L16_1_14
    simp only [ixn, Int.toNat_natCast, List.getElem?_eq_getElem hi, Option.bind_some]
    rw [condT (by omega), w64 (by omega) (by omega)]
    simp
  · unfold L16_1_14
    rw [condF (by omega)]
theorem both (K : Nat) (hK : 2000000 ≤ K) (ha : F15 K = some true) (p n g sq pv fr : Int) (hpv : 0 ≤ pv) (w : List Wr) (hw : Small2 w) :
    ((((F13 K p n g sq pv fr w).bind fun y12 => 
sel (fun y13 =>
some (y13, ([] : List (Int × Int × Int × ByteArray)))) (fun y14 =>
some (y14.1, y14.2)) y12 : Option (Int × (List (Int × Int × Int × ByteArray))))).bind fun y15 => 
(((F14 K p n g sq pv fr w).bind fun y19 => 
sel (fun y20 =>
some (y20, ([] : List (Int × Int × Int × ByteArray)))) (fun y21 =>
some (y21.1, y21.2)) y19 : Option (Int × (List (Int × Int × Int × ByteArray))))).bind fun y22 => 
(F15 K).bind fun y23 => 
cond y23 (
cond (y15.1 == y22.1) (
(F16_1 K y15.2 y22.2).bind fun y24 => 
some y24) (
some false)) (
some false)) = some true := by
  rw [cut_run K hK p n g sq pv fr hpv w hw, refcut_run K hK p n g sq pv fr hpv w hw, Option.bind_some, ha]
  rcases cut_cases (rfl : cutR p n g sq pv fr w = _) with ⟨e, h, _⟩ | ⟨h, hR, hb, _, _, _, _, hm⟩
  · rw [h]
    simp only [sel, Option.bind_some, beq_self_eq_true, cond_true]
    rw [same1_run K [] (by simp; omega) (by simp)]; rfl
  · rw [h]
    simp only [sel, Option.bind_some, beq_self_eq_true, cond_true]
    have hl := frs_len (bb w) sq pv fr (p - 15).toNat
    have hRR := hR
    unfold Right at hR
    have hmm := mul_bound (a := g - 3) (b := n - 1) (by omega) (by omega) (by omega) (by omega)
    rw [same1_run K _ (by omega) (by omega)]; rfl
theorem law (x1 : Int) (x2 : Int) (x3 : Int) (x4 : Int) (x5 : Int) (x6 : Int) (x7 : (List (ByteArray × Bool × ByteArray))) (x8 : Bool) (x9 : Bool) (g : gdT [.int .i64, .int .i64, .int .i64, .int .u32, .int .u32, .int .u32, .sl (.str (.bool (.str .nil))), .bool, .bool] (x1, x2, x3, x4, x5, x6, x7, x8, x9)) : ∃ k, F3 k x1 x2 x3 x4 x5 x6 x7 x8 x9 = some true := by
  refine ⟨2000000, ?_⟩
  have hK : 2000000 ≤ 2000000 := Nat.le_refl _
  have h4 := u32_wf (x := x4) g.2.2.2.1
  have h5 := u32_wf (x := x5) g.2.2.2.2.1
  have h6 := u32_wf (x := x6) g.2.2.2.2.2.1
  have hs := sw_small x7 12
  unfold F3
  have hg : ∃ a b c : Int, ((cond x8 ((F10 2000000 x1 x2 x3).bind fun y2 => some (y2.1, y2.2.1, y2.2.2)) (some (x1, x2, x3)) : Option (Int × Int × Int))) = some (a, b, c) := by
    cases x8 with
    | true => rw [cond_true, geom_run, Option.bind_some]; exact ⟨_, _, _, rfl⟩
    | false => exact ⟨_, _, _, rfl⟩
  obtain ⟨a, b, c, hg⟩ := hg
  rw [hg, Option.bind_some, show F11 2000000 x7 12 = _ from writes_run 2000000 x7 12 (by omega) (by omega), Option.bind_some]
  cases x9 with
  | true =>
    rw [cond_true, shaped_run _ hK x4 x5 x6 h4.1 h5.1 h6.1, Option.bind_some, Option.bind_some]
    exact both _ hK alive a b c _ _ _ (Int.emod_nonneg _ (by omega)) _ (shw_small _)
  | false =>
    rw [cond_false, Option.bind_some]
    exact both _ hK alive a b c _ _ _ h5.1 _ hs
end Go.Proofs.YtlnadpijicfceaaDoor.PureGroupCuts

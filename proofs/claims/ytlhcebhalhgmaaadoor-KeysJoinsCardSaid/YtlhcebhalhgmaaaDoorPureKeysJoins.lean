/- Plain law: KeysJoins. -/
import Derived.Test.YtlhcebhalhgmaaaDoorPureJoin
import Derived.Test.YtlhcebhalhgmaaaDoorPureKeysHeads
import Derived.Test.YtlhcebhalhgmaaaDoorPKeyRight
import Derived.Test.YtlhcebhalhgmaaaDoorPureBytes
namespace Go.Proofs.YtlhcebhalhgmaaaDoor.PureKeysJoins
open Go.RowKit Go.Proofs.YtlhcebhalhgmaaaDoor.Mc Go.Proofs.YtlhcebhalhgmaaaDoor.N Go.Proofs.YtlhcebhalhgmaaaDoor.Plain Go.Proofs.YtlhcebhalhgmaaaDoor.PureRune Go.Proofs.YtlhcebhalhgmaaaDoor.PureKeys Go.Proofs.YtlhcebhalhgmaaaDoor.PureHead Go.Proofs.YtlhcebhalhgmaaaDoor.PureJoin Go.Proofs.YtlhcebhalhgmaaaDoor.PureKeysHeads
open Go.Proofs.YtlhcebhalhgmaaaDoor.PureKeysRight (alive right_run right_eq)
open Go.Proofs.YtlhcebhalhgmaaaDoor.PKeyRight (right_any)
open Go.Proofs.YtlhcebhalhgmaaaDoor.PureBytes (width4)
set_option linter.unusedSimpArgs false
set_option linter.unusedVariables false
theorem okR_ne {x : Nat × Nat} (h : okR x = true) : x ≠ (65533, 1) := by
  rintro rfl
  revert h; decide
theorem law (a0 : ByteArray) (a1 : ByteArray) (g : gdT [.str, .str] (a0, a1)) : ∃ k, F6 k a0 a1 = some true := by
  obtain ⟨L, hL, hl⟩ := runes_ex a0 a0.size 0 (by omega)
  obtain ⟨M, hM, hm⟩ := runes_ex a1 a1.size 0 (by omega)
  refine ⟨2000000, ?_⟩
  have e1 := right_any 2000000 hL (by omega)
  have e2 := right_any 2000000 hM (by omega)
  unfold F6
  rw [alive, e1, e2]
  simp only [Option.bind_some, Bool.not_true, cond_false]
  cases k1 : (L.all okR && (decide (1 ≤ L.length) && decide (L.length ≤ 12))) with
  | false => rfl
  | true =>
    cases k2 : (M.all okR && (decide (1 ≤ M.length) && decide (M.length ≤ 12))) with
    | false => rfl
    | true =>
      simp only [Bool.and_eq_true, decide_eq_true_eq] at k1 k2
      have h0 := width4 hL (by omega)
      have h1 := width4 hM (by omega)
      have hJ := runes_join hM hL (by omega) (fun x hx => okR_ne (List.all_eq_true.1 k1.1 x hx))
      have hs : (a0 ++ a1).size ≤ 1000000000 := by rw [join_size]; omega
      have hjl : (L ++ M).length ≤ (a0 ++ a1).size := by rw [join_size, List.length_append]; omega
      have hw : W (L ++ M) (L.length : Int).toNat = a0.size := by
        have := W_all hL (by omega) L.length (Nat.le_refl _)
        rw [Int.toNat_natCast]
        unfold W at this ⊢
        rw [List.take_left' rfl]
        rw [List.take_length] at this
        omega
      have hx : (a0 ++ a1).extract 0 a0.size = a0 := by
        apply ByteArray.ext
        apply Array.ext'
        have e : (a0 ++ a1).data.toList = a0.data.toList ++ a1.data.toList := by simp
        rw [Lib.extract_data, e, List.drop_zero, Nat.sub_zero, Lib.size_eq a0, List.take_left' rfl]
      have c0 := count_run 2000000 (by omega) hL (by omega) (by omega)
      have c1 := count_run 2000000 (by omega) hM (by omega) (by omega)
      have cJ := count_run 2000000 hs hJ (by rw [List.length_append]; omega) hjl
      have hh := head_run 2000000 hs hJ (by rw [List.length_append]; omega) (L.length : Int) (by omega)
      have rJ := right_run 2000000 hs hJ (by rw [List.length_append]; omega) hjl
      simp only [Option.bind_some, Bool.not_true, cond_false]
      rw [grdD (by omega), c0, c1, cJ]
      simp only [Option.bind_some]
      rw [hh, hw, hx, rJ, right_eq, w64 (by omega) (by omega), grdD (by omega), grdD (by omega)]
      simp only [Option.bind_some, BEq.rfl, cond_true, List.length_append, List.all_append, k1.1, k2.1, Bool.true_and]
      have : (((L.length + M.length : Nat) : Int) == (L.length : Int) + (M.length : Int)) = true := by rw [beq_iff_eq]; omega
      rw [this, cond_true]
      congr 1
      rw [beq_iff_eq, ← Bool.decide_and, decide_eq_decide]
      omega
end Go.Proofs.YtlhcebhalhgmaaaDoor.PureKeysJoins

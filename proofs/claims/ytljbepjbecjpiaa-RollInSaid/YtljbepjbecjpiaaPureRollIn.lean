/- Plain law: RollIn. -/
import Derived.Test.YtljbepjbecjpiaaPureMade
namespace Go.Proofs.Ytljbepjbecjpiaa.PureRollIn
open Go.RowKit Go.Proofs.Ytljbepjbecjpiaa.Mc Go.Proofs.Ytljbepjbecjpiaa.N Go.Proofs.Ytljbepjbecjpiaa.Plain
open Go.Proofs.Ytljbepjbecjpiaa.PureRoll hiding len0 u32_wf i64_wf
open Go.Proofs.Ytljbepjbecjpiaa.PureMade
set_option linter.unusedSimpArgs false
set_option linter.unusedVariables false

theorem has_spots (g : List Int) (i : Nat) (r : Int) : hasR r (spotsOf g i) = ((g.isEmpty && (r == 0)) || hasR r (sp5 g)) := by
  cases g with
  | nil =>
    have : sp5 [] = [] := rfl
    rw [spotsOf, this, if_pos rfl]
    simp only [hasR, List.any_cons, List.any_nil, Bool.or_false, List.isEmpty_nil, Bool.true_and]
    rw [Bool.eq_iff_iff]; simp only [beq_iff_eq]; omega
  | cons x g =>
    have : sp5 (x :: g) ≠ [] := by
      intro h
      have h2 := congrArg List.length h
      simp only [sp5, pre_len, List.length_cons, List.length_nil] at h2
      omega
    rw [spotsOf, if_neg this]; simp

theorem is_run (l : List (List Int)) (q : Int) (hq : 0 ≤ q ∧ q < 6) (i : Nat) (hi : i < l.length) (z : List Int) :
    (((ix l ((i : Int), z).1).bind fun a192 => cond ((a192.length : Int) == 0) (some ((IntKind.wrap .i64 (q - 1)) == 0)) (some false) : Option Bool)).bind (fun y193 => loopN (L3_35 100 l q ((i : Int), z)) 100 (y193, 0)) = some (hasR (q - 1) (spotsOf (grp l i) i)) := by
  have hg : l[i]? = some (grp l i) := by simp [grp, List.getD, hi]
  have hw : IntKind.wrap .i64 (q - 1) = q - 1 := w64 (by omega) (by omega)
  have e0 : ((ix l ((i : Int), z).1).bind fun a192 => cond ((a192.length : Int) == 0) (some ((IntKind.wrap .i64 (q - 1)) == 0)) (some false) : Option Bool) = some ((grp l i).isEmpty && (q - 1 == 0)) := by
    simp only [ixn, hg, Option.bind_some, len0, hw]
    cases (grp l i).isEmpty <;> rfl
  rw [e0, has_spots]
  simp only [Option.bind_some]
  generalize ((grp l i).isEmpty && (q - 1 == 0)) = b
  refine loop_go (fun j => (b || hasR (q - 1) (pre (grp l i) j), (j : Int))) (min (grp l i).length 5) (by simp [pre, hasR]) (by omega) (fun j hj => ?_) ?_
  · unfold L3_35
    have hj' : (grp l i)[j]? = some ((grp l i).getD j 0) := by
      have : j < (grp l i).length := by omega
      simp [List.getD, this]
    have hp : hasR (q - 1) (pre (grp l i) (j + 1)) = (hasR (q - 1) (pre (grp l i) j) || ((grp l i).getD j 0 % 4 == q - 1)) := by
      rw [pre_succ]; simp [hasR]
    simp only [ixn, hg, Option.bind_some, condT (show (j : Int) < ((grp l i).length : Int) by omega), hj', pick _ _ 4 (by omega) (by omega), hw]
    rw [condT (by omega), hp, ← Bool.or_assoc]
    cases (b || hasR (q - 1) (pre (grp l i) j))
    · simp only [cond_false, Option.bind_some, Bool.false_or]
      rw [w64 (by omega) (by omega)]; rfl
    · simp only [cond_true, Option.bind_some, Bool.true_or]
      rw [w64 (by omega) (by omega)]; rfl
  · unfold L3_35
    simp only [ixn, hg, Option.bind_some]
    by_cases h : ((min (grp l i).length 5 : Nat) : Int) < ((grp l i).length : Int)
    · rw [condT h, Option.bind_some, condF (by omega)]; rfl
    · rw [condF h, Option.bind_some]; rfl

theorem law (x1 : (List (List Int))) (x2 : Int) (g : gdT [.sl (.sl (.int .i64 .nil) .nil), .int .i64] (x1, x2)) : ∃ k, F3 k x1 x2 = some true := by
  refine ⟨100, ?_⟩
  have hq := And.intro (Int.emod_nonneg x2 (show (6 : Int) ≠ 0 by omega)) (Int.emod_lt_of_pos x2 (show (0 : Int) < 6 by omega))
  generalize hr : x2 % 6 = q at hq
  have hin : ∀ n, n ≤ min x1.length 20 → (inR (q - 1) (places x1 n)).length ≤ 20 := fun n hn => by
    unfold inR
    rw [List.length_map]
    have := List.length_filter_le (fun p : Int × Int × Spots => hasR (q - 1) p.2.2) (places x1 n)
    rw [places_len] at this
    omega
  have loop : loopN (L3_20 100 x1 q) 100 (0, []) = some (inR (q - 1) (places x1 (min x1.length 20))) := by
    refine loop_go (fun i => ((i : Int), inR (q - 1) (places x1 i))) (min x1.length 20) rfl (by omega) (fun i hi => ?_) ?_
    · unfold L3_20
      have hp : inR (q - 1) (places x1 (i + 1)) = if hasR (q - 1) (spotsOf (grp x1 i) i) then inR (q - 1) (places x1 i) ++ [(i : Int) + 1] else inR (q - 1) (places x1 i) := by
        rw [places_succ]
        by_cases h : hasR (q - 1) (spotsOf (grp x1 i) i) = true
        · simp [inR, h]
        · simp [inR, h]
      have hw2 : IntKind.wrap .u32 (IntKind.wrap .i64 ((i : Int) + 1)) = (i : Int) + 1 := by rw [w64 (by omega) (by omega), w32 (by omega) (by omega)]
      have := hin i (by omega)
      have hrun := is_run x1 q hq i (by omega) (inR (q - 1) (places x1 i))
      simp only [condT (show (i : Int) < (x1.length : Int) by omega), Option.bind_some]
      rw [condT (by omega)]
      rw [← Option.bind_assoc, hrun]
      simp only [Option.bind_some, hw2]
      rw [hp]
      by_cases h : hasR (q - 1) (spotsOf (grp x1 i) i) = true
      · rw [h, cond_true, grdD (by simp only [List.length_singleton]; omega), if_pos rfl, w64 (by omega) (by omega)]; rfl
      · rw [Bool.not_eq_true] at h
        rw [h, cond_false, if_neg (by simp), w64 (by omega) (by omega)]; rfl
    · unfold L3_20
      by_cases h : ((min x1.length 20 : Nat) : Int) < (x1.length : Int)
      · rw [condT h, Option.bind_some, condF (by omega)]; try rfl
      · rw [condF h, Option.bind_some]; try rfl
  unfold F3
  rw [made, alive]
  simp only [Option.bind_some, sel, Bool.not_true, cond_false, pick _ _ 6 (show (0 : Int) < 6 by omega) (by omega), hr, loop]
  rw [w64 (by omega) (by omega), in_run _ _ _ (by rw [places_len]; omega) (fun p hp => by
    obtain ⟨i, _, rfl⟩ := List.mem_map.1 hp
    have := spotsOf_len (grp x1 i) i
    show (spotsOf (grp x1 i) i).length ≤ 50
    omega)]
  simp only [Option.bind_some]
  rw [same1 _ (by have := hin _ (Nat.le_refl _); omega)]; rfl
end Go.Proofs.Ytljbepjbecjpiaa.PureRollIn

/- Plain law: RollRefuses. -/
import Derived.Test.YtljbepjbecjpiaaPureRoll
namespace Go.Proofs.Ytljbepjbecjpiaa.PureRollRefuses
open Go.RowKit Go.Proofs.Ytljbepjbecjpiaa.Mc Go.Proofs.Ytljbepjbecjpiaa.N Go.Proofs.Ytljbepjbecjpiaa.PureRoll
set_option linter.unusedSimpArgs false
theorem law (x1 : Int) (x2 : Int) (x3 : (List (Int × Int))) (g : gdT [.int .u32, .int .u32, .sl (.int .i64 (.int .i64 .nil))] (x1, x2, x3)) : ∃ k, F4 k x1 x2 x3 = some true := by
  obtain ⟨w1, w2, w3⟩ := g
  have h1 : 0 ≤ x1 := (u32_wf w1).1
  refine ⟨100, ?_⟩
  unfold F4
  rw [alive]
  by_cases hl : x3.length ≤ 20
  · have hl' : decide (20 < (x3.length : Int)) = false := decide_eq_false (by omega)
    simp only [F13, Option.bind_some, cond_true, cond_false, Bool.not_true, hl']
    rw [add_run 100 0 x2 x3 0 [] (by omega) (by simp)]
    simp only [add, true_or, if_true, Option.bind_some]
    rw [add_run 100 x1 x2 [] 0 [] (by simp) (by simp)]
    simp only [add, or_true, if_true, Option.bind_some]
    rw [add_run 100 x1 x2 x3 0 [] (by omega) (by simp)]
    simp only [Option.bind_some, len0]
    by_cases h0 : x1 = 0
    · subst h0
      simp only [add, true_or, if_true, Option.bind_some]
      rw [add_run 100 0 x2 x3 0 [] (by omega) (by simp)]
      simp [add, F15, F16]
    · by_cases h3 : x3 = []
      · subst h3
        simp only [add, or_true, if_true, Option.bind_some]
        rw [add_run 100 x1 x2 [] 0 [] (by simp) (by simp)]
        simp [add, F15, F16]
      · have e0 : (x1 == 0) = false := by simpa using h0
        have e3 : x3.isEmpty = false := by simpa using h3
        simp only [add, h0, h3, or_self, if_false, show ¬ x1 ≤ 0 by omega, Option.bind_some]
        rw [add_run 100 x1 x2 x3 x1 _ (by omega) (by simp)]
        simp [add, F15, F16, h0, h3, e0, e3]
  · have hl' : decide (20 < (x3.length : Int)) = true := decide_eq_true (by omega)
    simp only [F13, Option.bind_some, cond_true, cond_false, Bool.not_true, hl']
end Go.Proofs.Ytljbepjbecjpiaa.PureRollRefuses

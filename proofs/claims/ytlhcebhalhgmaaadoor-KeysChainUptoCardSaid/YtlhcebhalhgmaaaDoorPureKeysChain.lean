/- Plain law: KeysChain. -/
import Derived.Test.YtlhcebhalhgmaaaDoorPureKeysOrder
namespace Go.Proofs.YtlhcebhalhgmaaaDoor.PureKeysChain
open Go.RowKit Go.Proofs.YtlhcebhalhgmaaaDoor.Mc Go.Proofs.YtlhcebhalhgmaaaDoor.N Go.Proofs.YtlhcebhalhgmaaaDoor.Plain Go.Proofs.YtlhcebhalhgmaaaDoor.PureRune Go.Proofs.YtlhcebhalhgmaaaDoor.PureKeys Go.Proofs.YtlhcebhalhgmaaaDoor.PureCmp
set_option linter.unusedSimpArgs false
set_option linter.unusedVariables false
theorem chain : ∀ (A B C : List Int), cmp A B ≤ 0 → cmp B C ≤ 0 → cmp A C ≤ 0 ∧ min (com A B) (com B C) ≤ com A C
  | [], B, C, _, _ => by
    refine ⟨?_, ?_⟩
    · cases C <;> simp [cmp]
    · cases B <;> simp [com]
  | _ :: _, [], _, h, _ => by simp [cmp] at h
  | _ :: _, _ :: _, [], _, h => by simp [cmp] at h
  | x :: xs, y :: ys, z :: zs, h1, h2 => by
    unfold cmp at h1 h2
    by_cases e1 : x = y
    · by_cases e2 : y = z
      · rw [if_pos e1] at h1
        rw [if_pos e2] at h2
        obtain ⟨h3, h4⟩ := chain xs ys zs h1 h2
        unfold cmp com
        rw [if_pos (e1.trans e2), if_pos e1, if_pos e2, if_pos (e1.trans e2)]
        exact ⟨h3, by omega⟩
      · rw [if_neg e2] at h2
        have hyz : y < z := by
          by_cases h : y < z
          · exact h
          · rw [if_neg h] at h2; omega
        unfold cmp com
        rw [if_neg (by omega), if_pos (by omega), if_neg e2]
        exact ⟨by omega, by omega⟩
    · rw [if_neg e1] at h1
      have hxy : x < y := by
        by_cases h : x < y
        · exact h
        · rw [if_neg h] at h1; omega
      have hyz : y ≤ z := by
        by_cases e2 : y = z
        · omega
        · rw [if_neg e2] at h2
          by_cases h : y < z
          · omega
          · rw [if_neg h] at h2; omega
      unfold cmp com
      rw [if_neg (by omega), if_pos (by omega), if_neg e1]
      exact ⟨by omega, by omega⟩
theorem law (a0 : ByteArray) (h0 : a0.size ≤ 1048576) (a1 : ByteArray) (h1 : a1.size ≤ 1048576) (a2 : ByteArray) (h2 : a2.size ≤ 1048576) : ∃ k, F8 k a0 a1 a2 = some true := by
  obtain ⟨L, hL, hl⟩ := runes_ex a0 a0.size 0 (by omega)
  obtain ⟨M, hM, hm⟩ := runes_ex a1 a1.size 0 (by omega)
  obtain ⟨N', hN, hn⟩ := runes_ex a2 a2.size 0 (by omega)
  refine ⟨2000000, ?_⟩
  unfold F8
  rw [PureKeysRight.alive, cmp_run _ (by omega) (by omega) hL hM (by omega) (by omega) (by omega) (by omega), cmp_run _ (by omega) (by omega) hM hN (by omega) (by omega) (by omega) (by omega), cmp_run _ (by omega) (by omega) hL hN (by omega) (by omega) (by omega) (by omega),
    common_run _ (by omega) (by omega) hL hN (by omega) (by omega) (by omega) (by omega), common_run _ (by omega) (by omega) hL hM (by omega) (by omega) (by omega) (by omega), common_run _ (by omega) (by omega) hM hN (by omega) (by omega) (by omega) (by omega),
    cmp_run _ (by omega) (by omega) hL hL (by omega) (by omega) (by omega) (by omega), cmp_self]
  simp only [Option.bind_some, Bool.not_true, cond_false]
  have hch := chain (rs L) (rs M) (rs N')
  generalize cmp (rs L) (rs M) = c1 at hch ⊢
  generalize cmp (rs M) (rs N') = c2 at hch ⊢
  generalize cmp (rs L) (rs N') = c3 at hch ⊢
  by_cases k1 : c1 ≤ 0
  · rw [condT k1, Option.bind_some]
    by_cases k2 : c2 ≤ 0
    · obtain ⟨k3, k4⟩ := hch k1 k2
      rw [decide_eq_true k2, cond_true, condT k3]
      congr 1
      rw [decide_eq_true_eq]
      unfold mn
      split <;> omega
    · rw [decide_eq_false k2]; rfl
  · rw [condF k1]; rfl
end Go.Proofs.YtlhcebhalhgmaaaDoor.PureKeysChain

/- ViewRefuses' plain law. -/
import Derived.Test.YtnpgfcedmdnemaaDoorPView
namespace Go.Proofs.YtnpgfcedmdnemaaDoor.PureViewRefuses
open Go.RowKit Go.Proofs.YtnpgfcedmdnemaaDoor.Mc Go.Proofs.YtnpgfcedmdnemaaDoor.N Go.Proofs.YtnpgfcedmdnemaaDoor.Plain Go.Proofs.YtnpgfcedmdnemaaDoor.PBatch1 Go.Proofs.YtnpgfcedmdnemaaDoor.PMk Go.Proofs.YtnpgfcedmdnemaaDoor.PView
set_option linter.unusedSimpArgs false
set_option linter.unusedVariables false
theorem stage_bad {W : List Wr} {w : Wr} (h : kr w.1 = false) : stage W w = (10, W) := by unfold stage; rw [if_pos h]
theorem stage_long {W : List Wr} {w : Wr} (h : kr w.1 = true) (hv : 48 < w.2.2.size) : stage W w = (11, W) := by unfold stage; rw [if_neg (by rw [h]; decide), if_pos hv]
theorem stage_new {w : Wr} (h : kr w.1 = true) (hv : ¬ 48 < w.2.2.size) : stage [] w = (0, [w]) := by unfold stage; rw [if_neg (by rw [h]; decide), if_neg hv]; rfl
theorem stage_same {w v : Wr} (h : kr w.1 = true) (hv : ¬ 48 < w.2.2.size) (e : v.1 = w.1) : stage [v] w = (0, [w]) := by
  unfold stage; rw [if_neg (by rw [h]; decide), if_neg hv]
  simp [stg, List.findIdx?_cons, e]
theorem one_len {w : Wr} : (mk [w]).length = 1 := by
  have h1 := mk_len [w]
  have : w.1 ∈ ks [w] := (PSorted.srt_mem _ _).2 (by simp [kl])
  have := List.length_pos_of_mem this
  unfold mk at h1 ⊢
  rw [List.length_map] at h1 ⊢
  simp only [List.length_singleton] at h1
  omega
theorem law (x1 : ByteArray) (x2 : ByteArray) (g : gdT [.str, .str] (x1, x2)) (b : blkT [.str, .str] (x1, x2) ≤ 1048576) : ∃ k, F4 k x1 x2 = some true := by
  refine ⟨2000000, ?_⟩
  have hb1 : x1.size ≤ 1048576 := by simp only [blkT, Gd.blk] at b; omega
  unfold F4 F9
  have hal := alive 2000000 (Nat.le_refl _)
  rw [Option.bind_some, hal, Option.bind_some, Bool.not_true, cond_false, Option.bind_some, cond_false]
  dsimp only
  rw [put_run _ (by omega) _ _ _ _ (by simp), Option.bind_some, kref_run _ hb1 (by omega)]
  dsimp only
  cases hk : kr x1 with
  | false =>
    rw [stage_bad (by exact hk)]
    dsimp only
    rw [del_run _ (by omega) _ _ _ (by simp), Option.bind_some, stage_bad (by exact hk)]
    dsimp only
    rw [Option.bind_some, staged_run _ (by omega) _ _ (by intro w hw; cases hw) (by simp), Option.bind_some]
    have h0 : (mk ([] : List Wr)).length = 0 := by have := mk_len ([] : List Wr); simpa using this
    simp [h0]
  | true =>
    have hks := kr_size hk
    by_cases hv : 48 < x2.size
    · rw [stage_long (by exact hk) (by exact hv)]
      dsimp only
      rw [del_run _ (by omega) _ _ _ (by simp), Option.bind_some, stage_new (by exact hk) (by show ¬ 48 < ByteArray.empty.size; decide)]
      dsimp only
      rw [Option.bind_some, staged_run _ (by omega) _ _ (by intro w hw; rw [List.mem_singleton] at hw; subst hw; exact ⟨by dsimp only; omega, by show ByteArray.empty.size ≤ 1000000; decide⟩) (by simp), Option.bind_some, Bool.not_true, cond_false, condT (by omega)]
      simp [one_len]
    · rw [stage_new (by exact hk) (by exact hv)]
      dsimp only
      rw [del_run _ (by omega) _ _ _ (by simp), Option.bind_some, stage_same (by exact hk) (by show ¬ 48 < ByteArray.empty.size; decide) (by rfl)]
      dsimp only
      rw [Option.bind_some, Bool.not_true, cond_false, condF (by omega), staged_run _ (by omega) _ _ (by intro w hw; rw [List.mem_singleton] at hw; subst hw; exact ⟨by dsimp only; omega, by show ByteArray.empty.size ≤ 1000000; decide⟩) (by simp), Option.bind_some]
      simp [one_len]
end Go.Proofs.YtnpgfcedmdnemaaDoor.PureViewRefuses

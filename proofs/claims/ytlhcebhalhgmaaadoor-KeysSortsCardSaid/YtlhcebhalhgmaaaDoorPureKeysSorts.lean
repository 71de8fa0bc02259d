/- KeysSorts' plain law. -/
import Derived.Test.YtlhcebhalhgmaaaDoorPSorted
import Derived.Test.YtlhcebhalhgmaaaDoorPureKeysRight
namespace Go.Proofs.YtlhcebhalhgmaaaDoor.PureKeysSorts
open Go.RowKit Go.Proofs.YtlhcebhalhgmaaaDoor.Mc Go.Proofs.YtlhcebhalhgmaaaDoor.N Go.Proofs.YtlhcebhalhgmaaaDoor.Plain Go.Proofs.YtlhcebhalhgmaaaDoor.PureRune Go.Proofs.YtlhcebhalhgmaaaDoor.PureKeys Go.Proofs.YtlhcebhalhgmaaaDoor.PureCmp Go.Proofs.YtlhcebhalhgmaaaDoor.PureBytes Go.Proofs.YtlhcebhalhgmaaaDoor.PSort Go.Proofs.YtlhcebhalhgmaaaDoor.PSorted
set_option linter.unusedSimpArgs false
set_option linter.unusedVariables false
def short (s : ByteArray) (n : Nat) : ByteArray := s.extract 0 (min s.size n)
theorem short_size (s : ByteArray) (n : Nat) : (short s n).size ≤ n := by
  unfold short; rw [ByteArray.size_extract]; omega
theorem short_run (K : Nat) (s : ByteArray) (n : Nat) : F30 K s (n : Int) = some (short s n) := by
  unfold F30 short
  have e : (mn (s.size : Int) (n : Int)).toNat = min s.size n := by unfold mn; split <;> omega
  rw [grdT (by unfold bnds mn; split <;> exact decide_eq_true (by omega)), e]
theorem texts_run (K : Nat) (l : List ByteArray) (m n : Nat) (hK : m < K) (hm : m ≤ 1000000) : F21 K l (m : Int) (n : Int) = some ((l.take m).map (short · n)) := by
  unfold F21
  rw [loop_go (r := (l.take m).map (short · n)) (fun i => ((i : Int), (l.take i).map (short · n))) (min m l.length) (by rfl) (by omega) ?_ ?_]
  · rfl
  · intro i hi
    have hil : i < l.length := by omega
    unfold L21_8
    simp only [short_run]
    rw [condT (by omega), decide_eq_true (by omega : (i : Int) < (m : Int)), Option.bind_some, cond_true, ixn, List.getElem?_eq_getElem hil, Option.bind_some, Option.bind_some, grdD (by simp only [List.length_map, List.length_take, List.length_singleton]; omega), w64 (by omega) (by omega), take_one hil, List.map_append]
    rfl
  · unfold L21_8
    have e : l.take (min m l.length) = l.take m := by
      rw [List.take_eq_take_iff]; omega
    rw [e]
    by_cases h : min m l.length < l.length
    · rw [condT (by omega), decide_eq_false (by omega)]; rfl
    · rw [condF (by omega)]; rfl
theorem same_run (K : Nat) (l : List ByteArray) (hK : l.length < K) (hl : l.length ≤ 1000000) : F22 K l l = some true := by
  unfold F22
  rw [show ((l.length : Int) != (l.length : Int)) = false by simp, cond_false]
  rw [loop_go (r := (.inr ())) (fun i => (i : Int)) l.length (by rfl) hK ?_ ?_]
  · rfl
  · intro i hi
    unfold L22_14
    rw [condT (by omega), ixn, List.getElem?_eq_getElem hi, Option.bind_some, Option.bind_some, w64 (by omega) (by omega)]
    simp
  · unfold L22_14
    rw [condF (by omega)]
theorem law (x1 : List ByteArray) (g : gdT [.sl (.str .nil)] (x1)) : ∃ k, F9 k x1 = some true := by
  refine ⟨2000000, ?_⟩
  unfold F9
  have ht := texts_run 2000000 x1 30 40 (by omega) (by omega)
  have hs : Small ((x1.take 30).map (short · 40)) := by
    intro a ha
    obtain ⟨b, _, rfl⟩ := List.mem_map.1 ha
    have := short_size b 40
    omega
  have hn : ((x1.take 30).map (short · 40)).length ≤ 30 := by rw [List.length_map, List.length_take]; omega
  generalize (x1.take 30).map (short · 40) = l at *
  rw [show F21 2000000 x1 30 40 = some l from ht, Option.bind_some, PureKeysRight.alive, Option.bind_some, cond_true,
    sorted_run 2000000 (by omega) hs (by omega), Option.bind_some, ks_run 2000000 (by omega) hs (by omega), Option.bind_some]
  have hq : (srt l).length ≤ l.length := by
    first
    | exact srt_len l
    | (unfold srt; exact Nat.le_trans (dd_len _) (by rw [ms_len]; omega))
  rw [same_run 2000000 _ (by omega) (by omega)]
  rfl
end Go.Proofs.YtlhcebhalhgmaaaDoor.PureKeysSorts

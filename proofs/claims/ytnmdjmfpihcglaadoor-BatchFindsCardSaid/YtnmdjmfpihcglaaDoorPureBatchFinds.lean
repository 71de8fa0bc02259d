/- BatchFinds' plain law. -/
import Derived.Test.YtnmdjmfpihcglaaDoorPBatch4
import Derived.Test.YtnmdjmfpihcglaaDoorPureBatchRights
namespace Go.Proofs.YtnmdjmfpihcglaaDoor.PureBatchFinds
open Go.RowKit Go.Proofs.YtnmdjmfpihcglaaDoor.Mc Go.Proofs.YtnmdjmfpihcglaaDoor.N Go.Proofs.YtnmdjmfpihcglaaDoor.Plain Go.Proofs.YtnmdjmfpihcglaaDoor.PBatch1 Go.Proofs.YtnmdjmfpihcglaaDoor.PBatch2 Go.Proofs.YtnmdjmfpihcglaaDoor.PBatch4
open Go.Proofs.YtnmdjmfpihcglaaDoor.PureBatchRights (alive)
set_option linter.unusedSimpArgs false
set_option linter.unusedVariables false
theorem law (x1 : List Wr) (x2 : ByteArray) (x3 : Int) (g : gdT [.sl (.str (.bool (.str .nil))), .str, .int .i64] (x1, x2, x3)) : ∃ k, F7 k x1 x2 x3 = some true := by
  refine ⟨2000000, ?_⟩
  unfold F7
  have hw := PBook.writes_run 2000000 x1 30 (by omega) (by omega)
  have hs := sw_small x1 30
  have hn : ((x1.take 30).map PBook.sw).length ≤ 30 := by rw [List.length_map, List.length_take]; omega
  generalize (x1.take 30).map PBook.sw = l at *
  rw [show F13 2000000 x1 30 = some l from hw, Option.bind_some]
  have hkey : ∃ key, (((cond (decide (0 < (l.length : Int))) (
some (decide (0 ≤ x3))) (
some false) : Option Bool)).bind fun y6 => 
cond y6 (
grd ((l.length : Int) != 0) <|
(ix l (x3.tmod (l.length : Int))).bind fun a7 =>
(l[(x3.tmod (l.length : Int)).toNat]?).bind fun a8 =>
some a8.1) (
some x2)) = some key := by
    by_cases h1 : 0 < (l.length : Int)
    · rw [condT h1, Option.bind_some]
      by_cases h2 : 0 ≤ x3
      · rw [decide_eq_true h2, cond_true, grdT (by rw [bne_iff_ne]; omega), Int.tmod_eq_emod_of_nonneg h2]
        have h3 := Int.emod_nonneg x3 (show (l.length : Int) ≠ 0 by omega)
        have h4 := Int.emod_lt_of_pos x3 h1
        obtain ⟨i, hi⟩ := Int.eq_ofNat_of_zero_le h3
        have hil : i < l.length := by omega
        rw [hi, ixn, Int.toNat_natCast, List.getElem?_eq_getElem hil, Option.bind_some, Option.bind_some]
        exact ⟨_, rfl⟩
      · rw [decide_eq_false h2]; exact ⟨_, rfl⟩
    · rw [condF h1]; exact ⟨_, rfl⟩
  obtain ⟨key, hkey⟩ := hkey
  rw [hkey, Option.bind_some, find_run _ _ _ (by omega) (by omega), Option.bind_some, reffind_run _ _ _ (by omega) (by omega), Option.bind_some, alive, Option.bind_some, cond_true, BEq.rfl, cond_true]
  simp only [BEq.rfl, Bool.and_self, cond_true]
  have hk := ks_len l
  rw [keys_run _ _ hs (by omega) (by omega), Option.bind_some, refkeys_run _ _ hs (by omega) (by omega), Option.bind_some, PBook.same_run _ _ (by omega) (by omega)]
  rfl
end Go.Proofs.YtnmdjmfpihcglaaDoor.PureBatchFinds

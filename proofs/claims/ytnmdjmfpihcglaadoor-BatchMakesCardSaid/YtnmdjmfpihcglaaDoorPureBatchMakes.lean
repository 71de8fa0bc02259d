/- BatchMakes' plain law. -/
import Derived.Test.YtnmdjmfpihcglaaDoorPBatch4
import Derived.Test.YtnmdjmfpihcglaaDoorPureBatchRights
namespace Go.Proofs.YtnmdjmfpihcglaaDoor.PureBatchMakes
open Go.RowKit Go.Proofs.YtnmdjmfpihcglaaDoor.Mc Go.Proofs.YtnmdjmfpihcglaaDoor.N Go.Proofs.YtnmdjmfpihcglaaDoor.Plain Go.Proofs.YtnmdjmfpihcglaaDoor.PureKeys Go.Proofs.YtnmdjmfpihcglaaDoor.PBatch1 Go.Proofs.YtnmdjmfpihcglaaDoor.PBatch2 Go.Proofs.YtnmdjmfpihcglaaDoor.PBatch4
open Go.Proofs.YtnmdjmfpihcglaaDoor.PureBatchRights (alive)
set_option linter.unusedSimpArgs false
set_option linter.unusedVariables false
theorem bend (K : Nat) : ∀ (m i k : Nat) (l : List Wr), i + m = l.length → l.length ≤ 1000 → m < k → ∃ l', loopN (L8_14 K) k ((i : Int), l) = some l'
  | 0, i, k, l, hi, hl, hk => by
    obtain ⟨k, rfl⟩ : ∃ q, k = q + 1 := ⟨k - 1, by omega⟩
    exact ⟨l, loop_end (by unfold L8_14; rw [condF (by show ¬ (i : Int) < (l.length : Int); omega)])⟩
  | m + 1, i, k, l, hi, hl, hk => by
    obtain ⟨k, rfl⟩ : ∃ q, k = q + 1 := ⟨k - 1, by omega⟩
    have hli : l[i]? = some l[i] := List.getElem?_eq_getElem (by omega)
    obtain ⟨l', h⟩ := bend K m (i + 1) k (l.set i ((⟨#[63]⟩ : ByteArray), l[i].2.1, l[i].2.2)) (by rw [List.length_set]; omega) (by rw [List.length_set]; omega) (by omega)
    refine ⟨l', ?_⟩
    rw [loop_step (b := (((i + 1 : Nat) : Int), l.set i ((⟨#[63]⟩ : ByteArray), l[i].2.1, l[i].2.2)))]
    · exact h
    · unfold L8_14
      simp only [ixn, Int.toNat_natCast, hli, Option.bind_some]
      rw [condT (by omega), w64 (by omega) (by omega)]; rfl
theorem law (x1 : List Wr) (g : gdT [.sl (.str (.bool (.str .nil)))] (x1)) : ∃ k, F8 k x1 = some true := by
  refine ⟨2000000, ?_⟩
  unfold F8
  have hw := PBook.writes_run 2000000 x1 30 (by omega) (by omega)
  have hs := sw_small x1 30
  have hn : ((x1.take 30).map PBook.sw).length ≤ 30 := by rw [List.length_map, List.length_take]; omega
  generalize (x1.take 30).map PBook.sw = l at *
  have hm := mk_len l
  rw [show F13 2000000 x1 30 = some l from hw, Option.bind_some, grdD (by simp only [List.length_nil]; omega), List.nil_append, make_run _ _ hs (by omega) (by omega), Option.bind_some, refmake_run _ _ hs (by omega) (by omega), Option.bind_some,
    PBook.sameW2_run _ _ (by omega) (by omega), Option.bind_some, cond_true, PBook.sameW_run _ _ (by omega) (by omega), Option.bind_some, Option.bind_some]
  obtain ⟨l', hl'⟩ := bend 2000000 (mk l).length 0 2000000 (mk l) (by omega) (by omega) (by omega)
  rw [show (0 : Int) = ((0 : Nat) : Int) from rfl, hl', Option.bind_some, alive, Option.bind_some, cond_true]
  simp only [cond_true]
  rw [PBook.sameW_run _ _ (by omega) (by omega), Option.bind_some, cond_true, Option.bind_some, refmake_run _ _ hs (by omega) (by omega), Option.bind_some, PBook.sameW_run _ _ (by omega) (by omega)]
  rfl
end Go.Proofs.YtnmdjmfpihcglaaDoor.PureBatchMakes

/- BatchBent's plain law. -/
import Derived.Test.YtnmdjmfpihcglaaDoorPBatch3
import Derived.Test.YtnmdjmfpihcglaaDoorPMkR
namespace Go.Proofs.YtnmdjmfpihcglaaDoor.PureBatchBent
open Go.RowKit Go.Proofs.YtnmdjmfpihcglaaDoor.Mc Go.Proofs.YtnmdjmfpihcglaaDoor.N Go.Proofs.YtnmdjmfpihcglaaDoor.Plain Go.Proofs.YtnmdjmfpihcglaaDoor.PBatch1 Go.Proofs.YtnmdjmfpihcglaaDoor.PBatch2 Go.Proofs.YtnmdjmfpihcglaaDoor.PBatch3 Go.Proofs.YtnmdjmfpihcglaaDoor.PMk Go.Proofs.YtnmdjmfpihcglaaDoor.PMkR
set_option linter.unusedSimpArgs false
set_option linter.unusedVariables false
theorem alive : F10 2000000 = some true := by kernel_rfl
theorem pick_run (K : Nat) (n m : Int) (h0 : 0 < m) (h1 : m ≤ 1000000000) : F20 K n m = some (n % m) := by
  have ha := Int.tmod_lt_of_pos n h0
  have hb : -m < n.tmod m := by
    rcases Int.le_total 0 n with h | h
    · have := Int.tmod_nonneg m h; omega
    · have := Int.tmod_lt_of_pos (-n) h0
      rw [Int.neg_tmod] at this
      omega
  unfold F20
  rw [grdT (by rw [bne_iff_ne]; omega), ← tmod_emod h0]
  by_cases h : n.tmod m < 0
  · rw [condT h, if_pos h, Option.bind_some, w64 (by omega) (by omega)]
  · rw [condF h, if_neg h, Option.bind_some]
theorem law (x1 : List Wr) (x2 x3 : Int) (x4 : Bool) (g : gdT [.sl (.str (.bool (.str .nil))), .int .i64, .int .u8, .bool] (x1, x2, x3, x4)) : ∃ k, F6 k x1 x2 x3 x4 = some true := by
  refine ⟨2000000, ?_⟩
  have hK : 2000000 ≤ 2000000 := Nat.le_refl _
  unfold F6
  have hw := PBook.writes_run 2000000 x1 8 (by omega) (by omega)
  have hsm := sw_small x1 8
  have hll : ((x1.take 8).map PBook.sw).length ≤ 8 := by rw [List.length_map, List.length_take]; omega
  rw [show F13 2000000 x1 8 = _ from hw, Option.bind_some, refmake_run _ _ hsm (by omega) hK, Option.bind_some]
  have hms := mk_small hsm
  have hml := mk_len ((x1.take 8).map PBook.sw)
  generalize mk ((x1.take 8).map PBook.sw) = l at *
  rw [refbytes_run _ l hms hK, Option.bind_some, alive, Option.bind_some, Bool.not_true, cond_false, Option.bind_some]
  unfold bout
  by_cases hb : bright l = 0
  · rw [if_pos hb]
    have hcs := cat_size hms
    have hn := bright_len hb
    have hz := numsize l.length hn.2
    have hz1 := (Go.Proofs.YtnmdjmfpihcglaaDoor.PLay.nI_length l.length (by omega)).1
    have hsz : (bb l).size = (strOfNums (PLay.nI l.length)).size + (cat l).size := by unfold bb; rw [ByteArray.size_append]
    rw [strOfNums_size] at hsz
    rw [strOfNums_size] at hz
    have hpos : 0 < (bb l).size := by omega
    have hmax : (bb l).size ≤ 100000000 := by omega
    generalize bb l = b at *
    dsimp only
    rw [show ((0 : Int) != 0) = false from rfl, cond_false, pick_run _ _ _ (by omega) (by omega), Option.bind_some, grdD (by omega)]
    have h1 := Int.emod_nonneg x2 (show (b.size : Int) ≠ 0 by omega)
    have h2 := Int.emod_lt_of_pos x2 (show (0 : Int) < b.size by omega)
    obtain ⟨p, hp⟩ : ∃ p : Nat, x2 % (b.size : Int) = (p : Int) := ⟨(x2 % (b.size : Int)).toNat, by omega⟩
    rw [hp] at h2 ⊢
    have hpl : p < (strNums b).length := by rw [strNums_length]; omega
    simp only [ixn, Int.toNat_natCast, List.getElem?_eq_getElem hpl, Option.bind_some]
    obtain ⟨y, hy, hyl⟩ : ∃ y, ((cond x4 (grd (bnds (((strNums b).set p (bits .xor .u8 (strNums b)[p] x3)).length : Int) 0 (p : Int)) <| some ((((strNums b).set p (bits .xor .u8 (strNums b)[p] x3)).drop 0).take (p - 0))) (some ((strNums b).set p (bits .xor .u8 (strNums b)[p] x3)))) : Option (List Int)) = some y ∧ y.length ≤ b.size := by
      cases x4 with
      | true =>
        rw [cond_true, grdT (by unfold bnds; rw [List.length_set, strNums_length]; exact decide_eq_true (by omega))]
        exact ⟨_, rfl, by rw [List.length_take]; omega⟩
      | false =>
        rw [cond_false]
        exact ⟨_, rfl, by rw [List.length_set, strNums_length]; omega⟩
    rw [hy, Option.bind_some]
    have hys : (strOfNums y).size ≤ 9223372036854775807 := by rw [strOfNums_size]; omega
    have hbs := bread_small (strOfNums y)
    rw [read_run _ (by omega) _ hys, Option.bind_some, refread_run _ (by omega) _ hys, Option.bind_some, beq_self_eq_true, cond_true, PBook.sameW_run _ _ (by omega) (by omega)]
    rfl
  · rw [if_neg hb]
    dsimp only
    rw [bne_iff_ne.2 hb, cond_true]; rfl
end Go.Proofs.YtnmdjmfpihcglaaDoor.PureBatchBent

/- GroupLacks' plain law. -/
import Derived.Test.YtlnadpijicfceaaDoorPShaped
namespace Go.Proofs.YtlnadpijicfceaaDoor.PureGroupLacks
open Go.RowKit Go.Proofs.YtlnadpijicfceaaDoor.Mc Go.Proofs.YtlnadpijicfceaaDoor.N Go.Proofs.YtlnadpijicfceaaDoor.Plain Go.Proofs.YtlnadpijicfceaaDoor.PJoin Go.Proofs.YtlnadpijicfceaaDoor.PCut Go.Proofs.YtlnadpijicfceaaDoor.PShaped Go.Proofs.YtlnadpijicfceaaDoor.PBatch1 Go.Proofs.YtlnadpijicfceaaDoor.PBatch2 Go.Proofs.YtlnadpijicfceaaDoor.PBatch4 Go.Proofs.YtlnadpijicfceaaDoor.PPiece
set_option linter.unusedSimpArgs false
set_option linter.unusedVariables false
theorem join1_form (K : Nat) (l : List Fr) (h2 : 2 ≤ l.length) (hL : l.length ≤ 1000) (z : Fr) (hz : l[l.length - 1]? = some z) (hs : z.2.2.2.size ≤ 1100000) (hp : prf z = true) (hbad : z.1 = 2 ∨ (z.1 = 3 ∧ z.2.2.1 ≠ ((l.length - 1 : Nat) : Int))) : F17_1 K l = some (0, 0, 0, [], 2) := by
  have hn : (l.length : Int) - 1 = ((l.length - 1 : Nat) : Int) := by omega
  unfold F17_1
  rw [condF (by omega), w64 (by omega) (by omega), hn]
  simp only [ixn, Int.toNat_natCast, hz, Option.bind_some]
  rw [of_run K _ _ _ _ (by omega), Option.bind_some]
  obtain ⟨k, a, b, t⟩ := z
  have hpz : pr k a b t = true := hp
  dsimp only at *
  unfold of_
  rw [hpz, cond_true]
  rcases hbad with rfl | ⟨rfl, hb⟩
  · rfl
  · rw [show ((3 : Int) == 1) = false from rfl, show ((3 : Int) == 2) = false from rfl, show ((3 : Int) == 3) = true from rfl, cond_false, cond_false, cond_true]
    simp only [sel, Option.bind_some]
    unfold F39_3
    simp only [Option.bind_some, Bool.not_true, cond_false]
    rw [w32 (by omega) (by omega), bne_iff_ne.2 hb, cond_true]
theorem law (x1 : Int) (x2 : Int) (x3 : Int) (x4 : Int) (x5 : Int) (x6 : Int) (x7 : (List (ByteArray × Bool × ByteArray))) (x8 : Int) (g : gdT [.int .i64, .int .i64, .int .i64, .int .u32, .int .u32, .int .u32, .sl (.str (.bool (.str .nil))), .int .i64] (x1, x2, x3, x4, x5, x6, x7, x8)) : ∃ k, F9 k x1 x2 x3 x4 x5 x6 x7 x8 = some true := by
  refine ⟨2000000, ?_⟩
  have hK : 2000000 ≤ 2000000 := Nat.le_refl _
  have h4 := u32_wf (x := x4) g.2.2.2.1
  have h5 := u32_wf (x := x5) g.2.2.2.2.1
  have h6 := u32_wf (x := x6) g.2.2.2.2.2.1
  unfold F9
  rw [geom_run, Option.bind_some, shaped_run _ hK x4 x5 x6 h4.1 h5.1 h6.1, Option.bind_some]
  dsimp only
  have hsm := shw_small x7
  have hpv : 0 ≤ x5 % (1 + x4 % 1000) := Int.emod_nonneg _ (by omega)
  generalize shw x7 = w at *
  generalize 32 + x1 % 33 = p at *
  generalize 3 + x2 % 4 = n at *
  generalize 4 + x3 % 4 = g at *
  generalize x5 % (1 + x4 % 1000) = pv at *
  generalize 1 + x6 % (1 + x4 % 1000) = fr at *
  generalize 1 + x4 % 1000 = sq at *
  rw [cut_run _ hK p n g sq pv fr hpv w hsm, Option.bind_some, alive, Option.bind_some]
  rcases cut_cases (rfl : cutR p n g sq pv fr w = _) with ⟨e, h, he⟩ | ⟨h, hR, hb, h1, h2, h3, h4, hm⟩
  · rw [h]
    simp only [sel, Option.bind_some, Bool.not_true, cond_false]
    rw [bne_iff_ne.2 he, cond_true]; rfl
  · rw [h]
    unfold Right at hR
    have hr : ((p - 15).toNat : Int) = p - 15 := by omega
    have hf := bb_few hb
    simp only [sel, Option.bind_some, Bool.not_true, cond_false]
    rw [show ((0 : Int) != 0) = false from rfl, cond_false]
    generalize bb w = b at *
    generalize (p - 15).toNat = r at *
    have hr0 : 0 < r := by omega
    have hcl := cnt_le b.size r hr0
    have hc1 : 0 < cnt b.size r := (cnt_in b.size r 0 hr0).2 (by omega)
    have hl := frs_len b sq pv fr r
    have hat := fun i h => frs_at b sq pv fr r i h
    have hlast := frs_last b sq pv fr r
    have hpr := fun i hi => frs_pr b sq pv fr r hr0 hf.1 hf.2 hpv h1 h2 h3 h4 i hi
    have hss := frs_small b sq pv fr r hr0 hf.2
    generalize frs b sq pv fr r = l at *
    rw [decide_eq_false (show ¬ (l.length : Int) < 2 by omega), Option.bind_some, cond_false, pick_run _ x8 _ (by omega) (by omega), Option.bind_some]
    have hi0 := Int.emod_nonneg x8 (show (l.length : Int) ≠ 0 by omega)
    have hi1 := Int.emod_lt_of_pos x8 (show (0 : Int) < (l.length : Int) by omega)
    obtain ⟨i, hi⟩ := Int.eq_ofNat_of_zero_le hi0
    rw [hi] at hi0 hi1 ⊢
    have hi2 : i < l.length := by omega
    rw [w64 (x := (i : Int) + 1) (by omega) (by omega), grdT (by unfold bnds; exact decide_eq_true (by omega)), grdD (by rw [List.length_take, List.length_drop, List.length_nil]; omega), grdT (by unfold bnds; exact decide_eq_true (by omega))]
    have e1 : (([] : List Fr) ++ ((l.drop 0).take ((i : Int).toNat - 0))) = l.take i := by
      rw [List.nil_append, List.drop_zero, Int.toNat_natCast, Nat.sub_zero]
    have e2 : ((l.drop (((i : Int) + 1).toNat)).take (((l.length : Int).toNat) - (((i : Int) + 1).toNat))) = l.drop (i + 1) := by
      rw [show ((i : Int) + 1).toNat = i + 1 by omega, Int.toNat_natCast, List.take_of_length_le (by rw [List.length_drop]; exact Nat.le_refl _)]
    have hm : (l.take i ++ l.drop (i + 1)).length = cnt b.size r := by rw [List.length_append, List.length_take, List.length_drop]; omega
    rw [e1, e2, grdD (by rw [← List.length_append, hm]; omega)]
    generalize hmm : l.take i ++ l.drop (i + 1) = m at *
    by_cases hc : cnt b.size r = 1
    · have : F17_1 2000000 m = some (0, 0, 0, [], 3) := by
        unfold F17_1
        rw [condT (by omega)]
      rw [this, Option.bind_some]
      dsimp only
      rw [show ((3 : Int) == 2) = false from rfl, cond_false, show ((3 : Int) == 3) = true from rfl, cond_true, beq_iff_eq.2 (show (l.length : Int) = 2 by omega)]
    · have hz : ∃ z, m[m.length - 1]? = some z ∧ z ∈ l ∧ (z.1 = 2 ∨ (z.1 = 3 ∧ z.2.2.1 ≠ ((m.length - 1 : Nat) : Int))) := by
        subst hmm
        rw [hm]
        by_cases hil : i = cnt b.size r
        · refine ⟨prt b sq r (cnt b.size r - 1), ?_, List.mem_of_getElem? (hat _ (by omega)), .inl rfl⟩
          rw [List.getElem?_append_left (by rw [List.length_take]; omega), List.getElem?_take, if_pos (by omega), hat _ (by omega)]
        · refine ⟨slf b sq pv fr r, ?_, List.mem_of_getElem? hlast, .inr ⟨rfl, ?_⟩⟩
          · rw [List.getElem?_append_right (by rw [List.length_take]; omega), List.length_take, List.getElem?_drop, show i + 1 + (cnt b.size r - 1 - min i l.length) = cnt b.size r by omega, hlast]
          · show ((cnt b.size r : Nat) : Int) ≠ _
            omega
      obtain ⟨z, hz, hzl, hbad⟩ := hz
      obtain ⟨j, hj, rfl⟩ := List.getElem_of_mem hzl
      rw [join1_form 2000000 m (by omega) (by omega) _ hz (hss.2 _ hzl) (hpr j hj) hbad]; rfl
end Go.Proofs.YtlnadpijicfceaaDoor.PureGroupLacks

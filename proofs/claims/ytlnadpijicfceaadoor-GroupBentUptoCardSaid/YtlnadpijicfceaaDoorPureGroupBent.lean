/- GroupBent's plain law. -/
import Derived.Test.YtlnadpijicfceaaDoorPShaped
import Derived.Test.YtlnadpijicfceaaDoorPFlat
namespace Go.Proofs.YtlnadpijicfceaaDoor.PureGroupBent
open Go.RowKit Go.Proofs.YtlnadpijicfceaaDoor.Mc Go.Proofs.YtlnadpijicfceaaDoor.N Go.Proofs.YtlnadpijicfceaaDoor.Plain Go.Proofs.YtlnadpijicfceaaDoor.PJoin Go.Proofs.YtlnadpijicfceaaDoor.PJoin2 Go.Proofs.YtlnadpijicfceaaDoor.PCut Go.Proofs.YtlnadpijicfceaaDoor.PShaped Go.Proofs.YtlnadpijicfceaaDoor.PBatch1 Go.Proofs.YtlnadpijicfceaaDoor.PBatch2 Go.Proofs.YtlnadpijicfceaaDoor.PBatch3 Go.Proofs.YtlnadpijicfceaaDoor.PBatch4 Go.Proofs.YtlnadpijicfceaaDoor.PPiece Go.Proofs.YtlnadpijicfceaaDoor.PFlat Go.Proofs.YtlnadpijicfceaaDoor.PG4
set_option linter.unusedSimpArgs false
set_option linter.unusedVariables false
theorem sameG (K : Nat) (hK : 2000000 ≤ K) (a b c : Int) (l : List PBatch1.Wr) (hl : l.length ≤ 1000) : F19 K a b c l a b c l = some true := by
  unfold F19
  rw [beq_self_eq_true, beq_self_eq_true, beq_self_eq_true, cond_true, cond_true, cond_true, PBook.sameW_run K l (by omega) (by omega)]; rfl
theorem same (l : List Fr) (hl : l.length ≤ 1000) (hs : siz l ≤ 1500000) (hm : ∀ f ∈ l, f.2.2.2.size ≤ 1100000) : ∃ r : PJoin.Out, F17 2000000 l = some r ∧ F18 2000000 l = some r ∧ r.2.2.2.1.length ≤ 1000 := by
  have hK : 2000000 ≤ 2000000 := Nat.le_refl _
  have hsm : Small l := ⟨hl, hm⟩
  have hbo : ∀ i, i ≤ l.length → (bodT l i).size ≤ 1500000 := fun i hi => by have := bodT_siz l i; omega
  by_cases h2 : l.length < 2
  · refine ⟨(0, 0, 0, [], 3), ?_, ?_, by simp⟩
    · unfold F17
      rw [condT (by omega)]
    · unfold F18
      rw [condT (by omega)]
  · have hz : l[l.length - 1]? = some l[l.length - 1] := List.getElem?_eq_getElem (by omega)
    have e1 := join_run 2000000 hK l hsm (fun i hi => hbo i (by omega)) (by omega) _ hz
    have e2 := ref_run 2000000 hK l hsm (hbo _ (by omega)) (by omega) _ hz
    refine ⟨_, e1, e2, ?_⟩
    split
    · unfold fin
      split
      · simp
      · split
        · simp
        · split
          · simp
          · have := (bread_small (bodT l (l.length - 1))).2
            show (bread (bodT l (l.length - 1))).1.length ≤ 1000
            omega
    · simp
theorem law (x1 : Int) (x2 : Int) (x3 : Int) (x4 : Int) (x5 : Int) (x6 : Int) (x7 : (List (ByteArray × Bool × ByteArray))) (x8 : Int) (x9 : Int) (x10 : Int) (x11 : Int) (x12 : Int) (x13 : Int) (x14 : ByteArray) (g : gdT [.int .i64, .int .i64, .int .i64, .int .u32, .int .u32, .int .u32, .sl (.str (.bool (.str .nil))), .int .i64, .int .i64, .int .i64, .int .i64, .int .u32, .int .u32, .str] (x1, x2, x3, x4, x5, x6, x7, x8, x9, x10, x11, x12, x13, x14)) (b : blkT [.int .i64, .int .i64, .int .i64, .int .u32, .int .u32, .int .u32, .sl (.str (.bool (.str .nil))), .int .i64, .int .i64, .int .i64, .int .i64, .int .u32, .int .u32, .str] (x1, x2, x3, x4, x5, x6, x7, x8, x9, x10, x11, x12, x13, x14) ≤ 1048576) : ∃ k, F5 k x1 x2 x3 x4 x5 x6 x7 x8 x9 x10 x11 x12 x13 x14 = some true := by
  refine ⟨2000000, ?_⟩
  have hK : 2000000 ≤ 2000000 := Nat.le_refl _
  have h4 := u32_wf (x := x4) g.2.2.2.1
  have h5 := u32_wf (x := x5) g.2.2.2.2.1
  have h6 := u32_wf (x := x6) g.2.2.2.2.2.1
  have hb14 : x14.size ≤ 1048576 := by
    simp only [blkT, Gd.blk] at b
    omega
  unfold F5 F20
  rw [geom_run, Option.bind_some, shaped_run _ hK x4 x5 x6 h4.1 h5.1 h6.1, Option.bind_some]
  dsimp only
  have hsm := shw_small x7
  have hpv : 0 ≤ x5 % (1 + x4 % 1000) := Int.emod_nonneg _ (by omega)
  generalize shw x7 = w at *
  generalize 32 + x1 % 33 = p at *
  generalize 3 + x2 % 4 = n at *
  generalize 4 + x3 % 4 = g at *
  generalize x5 % (1 + x4 % 1000) = pv at *
  generalize 1 + x6 % (1 + x4 % 1000) = fr at *
  generalize 1 + x4 % 1000 = sq at *
  rw [refcut_run _ hK p n g sq pv fr hpv w hsm, Option.bind_some, alive, Option.bind_some]
  rcases cut_cases (rfl : cutR p n g sq pv fr w = _) with ⟨e, h, he⟩ | ⟨h, hR, hb, h1, h2, h3, h4', hm⟩
  · rw [h]
    simp only [sel, Option.bind_some, Bool.not_true, cond_false]
    rfl
  · rw [h]
    unfold Right at hR
    have hr : ((p - 15).toNat : Int) = p - 15 := by omega
    have hf := bb_few hb
    simp only [sel, Option.bind_some, Bool.not_true, cond_false]
    generalize bb w = b' at *
    generalize (p - 15).toNat = r at *
    have hr0 : 0 < r := by omega
    have hcl := cnt_le b'.size r hr0
    have hc1 : 0 < cnt b'.size r := (cnt_in b'.size r 0 hr0).2 (by omega)
    have hmm := mul_bound (a := g - 3) (b := n - 1) (by omega) (by omega) (by omega) (by omega)
    have hl := frs_len b' sq pv fr r
    have h900 : ∀ f ∈ frs b' sq pv fr r, f.2.2.2.size ≤ 900 := fun f hf' => by
      obtain ⟨j, hj, rfl⟩ := List.getElem_of_mem hf'
      rw [frs_get]
      split
      · show (b'.extract _ _).size ≤ _
        rw [ByteArray.size_extract]; omega
      · show (sb _ _ _).size ≤ _
        unfold sb; rw [s4_size]; omega
    generalize frs b' sq pv fr r = l at *
    have hl90 : l.length ≤ 82 := by omega
    have hsl : siz l ≤ 73800 := by
      have q := siz_all h900
      have : 900 * l.length ≤ 900 * 82 := Nat.mul_le_mul_left _ hl90
      omega
    rw [beq_eq_false_iff_ne.2 (show (l.length : Int) ≠ 0 by omega), cond_false, pick_run _ x9 _ (by omega) (by omega), Option.bind_some, pick_run _ x10 _ (by omega) (by omega), Option.bind_some]
    have hi0 := Int.emod_nonneg x9 (show (l.length : Int) ≠ 0 by omega)
    have hi1 := Int.emod_lt_of_pos x9 (show (0 : Int) < (l.length : Int) by omega)
    obtain ⟨i, hi⟩ := Int.eq_ofNat_of_zero_le hi0
    rw [hi] at hi0 hi1 ⊢
    have hk0 := Int.emod_nonneg x10 (show (l.length : Int) ≠ 0 by omega)
    have hk1 := Int.emod_lt_of_pos x10 (show (0 : Int) < (l.length : Int) by omega)
    obtain ⟨k, hk⟩ := Int.eq_ofNat_of_zero_le hk0
    rw [hk] at hk0 hk1 ⊢
    have hil : i < l.length := by omega
    have hkl : k < l.length := by omega
    rw [grdD (by rw [List.length_nil]; omega), pick_run _ x8 7 (by omega) (by omega)]
    simp only [List.nil_append, ixn, Int.toNat_natCast, List.getElem?_eq_getElem hil, List.getElem?_eq_getElem hkl, Option.bind_some]
    have hmi := List.getElem_mem hil
    have hmk := List.getElem_mem hkl
    have hi9 := h900 _ hmi
    have hk9 := h900 _ hmk
    have done' : ∀ m : List Fr, m.length ≤ 1000 → siz m ≤ 1500000 → (∀ f ∈ m, f.2.2.2.size ≤ 1100000) → ((F17 2000000 m).bind fun y69 => (F18 2000000 m).bind fun y71 => cond (y69.2.2.2.2 == y71.2.2.2.2) ((F19 2000000 y69.1 y69.2.1 y69.2.2.1 y69.2.2.2.1 y71.1 y71.2.1 y71.2.2.1 y71.2.2.2.1).bind fun y72 => some y72) (some false)) = some true := by
      intro m h1 h2 h3
      obtain ⟨r, e1, e2, hr⟩ := same m h1 h2 h3
      rw [e1, Option.bind_some, e2, Option.bind_some, beq_self_eq_true, cond_true, sameG _ hK _ _ _ _ hr]; rfl
    have done := fun (m : List Fr) (h1 : m.length ≤ 1000) (h2 : siz m ≤ 1100000) => done' m h1 (by omega) (fun f hf' => by have := siz_mem hf'; omega)
    have one' : ∀ f : Fr, f.2.2.2.size ≤ 1000000 → (l.set i f).length ≤ 1000 ∧ siz (l.set i f) ≤ 1100000 := fun f hf' => by
      have q := siz_set l i f
      rw [List.length_set]
      omega
    cases x8 % 7 == 0 with
    | true => exact done _ (one' _ (by dsimp only; omega)).1 (one' _ (by dsimp only; omega)).2
    | false =>
    rw [cond_false]
    cases x8 % 7 == 1 with
    | true => exact done _ (one' _ (by dsimp only; omega)).1 (one' _ (by dsimp only; omega)).2
    | false =>
    rw [cond_false]
    cases x8 % 7 == 2 with
    | true =>
      have q := siz_set l i (l[i].1, l[i].2.1, l[i].2.2.1, x14)
      dsimp only at q
      exact done' (l.set i (l[i].1, l[i].2.1, l[i].2.2.1, x14)) (by rw [List.length_set]; omega) (by omega) (fun f hf' => by
        rcases List.mem_or_eq_of_mem_set hf' with h | rfl
        · have := h900 f h; omega
        · show x14.size ≤ _
          omega)
    | false =>
    rw [cond_false]
    cases x8 % 7 == 3 with
    | true =>
      have hkl2 : k < (l.set i l[k]).length := by rw [List.length_set]; exact hkl
      rw [cond_true, List.getElem?_eq_getElem hkl2]
      have q1 := siz_set l i l[k]
      have q2 := siz_set (l.set i l[k]) k l[i]
      exact done ((l.set i l[k]).set k l[i]) (by rw [List.length_set, List.length_set]; omega) (by omega)
    | false =>
    rw [cond_false]
    cases x8 % 7 == 4 with
    | true =>
      have e2 : ((l.drop (((i : Int) + 1).toNat)).take (((l.length : Int).toNat) - (((i : Int) + 1).toNat))) = l.drop (i + 1) := by
        rw [show ((i : Int) + 1).toNat = i + 1 by omega, Int.toNat_natCast, List.take_of_length_le (by rw [List.length_drop]; exact Nat.le_refl _)]
      rw [cond_true, w64 (x := (i : Int) + 1) (by omega) (by omega), grdT (by unfold bnds; exact decide_eq_true (by omega)), grdT (by unfold bnds; exact decide_eq_true (by omega)), grdD (by rw [List.length_take, List.length_take, List.length_drop]; omega), Option.bind_some, Nat.sub_zero]
      simp only [Int.toNat_natCast] at e2
      rw [e2]
      have q1 := siz_take l i
      have q2 := siz_drop l (i + 1)
      exact done _ (by rw [List.length_append, List.length_take, List.length_drop]; omega) (by rw [siz_app]; omega)
    | false =>
    rw [cond_false]
    cases x8 % 7 == 5 with
    | true =>
      rw [cond_true, grdD (by simp only [List.length_singleton]; omega), Option.bind_some]
      exact done (l ++ [l[i]]) (by rw [List.length_append, List.length_singleton]; omega) (by
        rw [siz_app, siz_cons]
        have : siz ([] : List Fr) = 0 := rfl
        omega)
    | false =>
      rw [cond_false, pick_run _ x11 6 (by omega) (by omega), Option.bind_some]
      exact done _ (one' _ (by dsimp only; omega)).1 (one' _ (by dsimp only; omega)).2
end Go.Proofs.YtlnadpijicfceaaDoor.PureGroupBent

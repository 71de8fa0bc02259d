/- GroupTurned's plain law. -/
import Derived.Test.YtlnadpijicfceaaDoorPShaped
import Derived.Test.YtlnadpijicfceaaDoorPTurn
import Derived.Test.YtlnadpijicfceaaDoorPFlat
namespace Go.Proofs.YtlnadpijicfceaaDoor.PureGroupTurned
open Go.RowKit Go.Proofs.YtlnadpijicfceaaDoor.Mc Go.Proofs.YtlnadpijicfceaaDoor.N Go.Proofs.YtlnadpijicfceaaDoor.Plain Go.Proofs.YtlnadpijicfceaaDoor.PJoin Go.Proofs.YtlnadpijicfceaaDoor.PJoin2 Go.Proofs.YtlnadpijicfceaaDoor.PCut Go.Proofs.YtlnadpijicfceaaDoor.PShaped Go.Proofs.YtlnadpijicfceaaDoor.PBatch1 Go.Proofs.YtlnadpijicfceaaDoor.PBatch2 Go.Proofs.YtlnadpijicfceaaDoor.PBatch4 Go.Proofs.YtlnadpijicfceaaDoor.PPiece Go.Proofs.YtlnadpijicfceaaDoor.PTurn Go.Proofs.YtlnadpijicfceaaDoor.PFlat Go.Proofs.YtlnadpijicfceaaDoor.PG4
open Go.Proofs.YtlnadpijicfceaaDoor.PCrc (crc)
set_option linter.unusedSimpArgs false
set_option linter.unusedVariables false
theorem ne_ba (t : ByteArray) (hs : 0 < t.size) : (t.toList == (⟨#[]⟩ : ByteArray).toList) = false := by
  rw [PFd.beq_ba, decide_eq_false]
  intro e; subst e; exact absurd hs (by decide)
theorem part_ok2 (sq i : Int) (t : ByteArray) (hs : 0 < t.size) (h1 : 1 ≤ sq) (h2 : sq ≤ 2147483647) : pr 2 sq i t = true := by
  unfold pr
  rw [decide_eq_false (by omega), decide_eq_false (by omega), Bool.or_self, cond_false]
  rw [show ((2 : Int) == 1) = false from rfl, show ((2 : Int) == 2) = true from rfl, cond_false, cond_true, ne_ba t hs]; rfl
/-- a part's body is another one by one byte -/
theorem turned_join (b : ByteArray) (sq pv fr : Int) (r : Nat) (hr : 0 < r) (hf : 1 ≤ b.size ∧ b.size ≤ 900) (h1 : 0 ≤ pv) (h2 : pv < sq) (h3 : 1 ≤ fr) (h4 : fr ≤ sq) (h5 : sq ≤ 2147483647) (K : Nat) (hK : 2000000 ≤ K) (i : Nat) (hi : i < cnt b.size r) (t : ByteArray) (u v : List Int) (c d : Int) (hb : strNums (prt b sq r i).2.2.2 = u ++ c :: v) (hb' : strNums t = u ++ d :: v) (hcd : c ≠ d) : F17 K ((frs b sq pv fr r).set i (2, sq, (i : Int), t)) = some (0, 0, 0, [], 5) := by
  have hc1 : 0 < cnt b.size r := (cnt_in b.size r 0 hr).2 (by omega)
  have hcl := cnt_le b.size r hr
  have hl := frs_len b sq pv fr r
  have hlast := frs_last b sq pv fr r
  have hpr := fun i hi => frs_pr b sq pv fr r hr hf.1 hf.2 h1 h2 h3 h4 h5 i hi
  have hpat := fun i h hi => frs_pat b sq pv fr r i h hi
  have hss := frs_small b sq pv fr r hr hf.2
  have hall := frs_all b sq pv fr r hr
  have hget : ∀ (h : i < (frs b sq pv fr r).length), (frs b sq pv fr r)[i] = prt b sq r i := fun h => by rw [frs_get, if_pos hi]
  have h900 : ∀ f ∈ frs b sq pv fr r, f.2.2.2.size ≤ 900 := fun f hf' => by
    obtain ⟨j, hj, rfl⟩ := List.getElem_of_mem hf'
    rw [frs_get]
    split
    · show (b.extract _ _).size ≤ _
      rw [ByteArray.size_extract]; omega
    · show (sb _ _ _).size ≤ _
      unfold sb; rw [s4_size]; omega
  have hsz : t.size = (prt b sq r i).2.2.2.size := by
    rw [← strNums_length, ← strNums_length, hb, hb', List.length_append, List.length_append]; rfl
  have hs0 : 0 < t.size := by
    rw [← strNums_length, hb', List.length_append, List.length_cons]; omega
  have ht9 : t.size ≤ 900 := by
    rw [hsz]; have := h900 _ (List.mem_of_getElem? (frs_at b sq pv fr r i hi)); exact this
  generalize frs b sq pv fr r = l at *
  have hL : (l.set i (2, sq, (i : Int), t)).length = cnt b.size r + 1 := by rw [List.length_set]; exact hl
  have hz : (l.set i (2, sq, (i : Int), t))[(l.set i (2, sq, (i : Int), t)).length - 1]? = some (slf b sq pv fr r) := by
    rw [hL, Nat.add_sub_cancel, List.getElem?_set_ne (by omega)]; exact hlast
  have hsiz : siz (l.set i (2, sq, (i : Int), t)) ≤ 1500000 := by
    have q1 := siz_set l i (2, sq, (i : Int), t)
    have q2 := siz_all h900
    have : 900 * l.length ≤ 900 * 901 := Nat.mul_le_mul_left _ (by omega)
    dsimp only at q1
    omega
  have hsm : Small (l.set i (2, sq, (i : Int), t)) := ⟨by omega, fun f hf' => by
    rcases List.mem_or_eq_of_mem_set hf' with h | rfl
    · have := h900 f h; omega
    · show t.size ≤ _
      omega⟩
  rw [join_run K hK _ hsm (fun j _ => Nat.le_trans (bodT_siz _ _) hsiz) (by omega) _ hz]
  rw [if_pos]
  · rw [hL, Nat.add_sub_cancel]
    have hT : i < (l.take (cnt b.size r)).length := by rw [List.length_take]; omega
    have e1 : bodT l (cnt b.size r) = flat ((l.take (cnt b.size r)).take i) ++ ((prt b sq r i).2.2.2 ++ flat ((l.take (cnt b.size r)).drop (i + 1))) := by
      have hgi : (l.take (cnt b.size r))[i] = prt b sq r i := by rw [List.getElem_take]; exact hget (by omega)
      rw [bodT_flat]
      conv => lhs; rw [split_at _ i hT]
      rw [flat_app, hgi]; rfl
    have e2 : bodT (l.set i (2, sq, (i : Int), t)) (cnt b.size r) = flat ((l.take (cnt b.size r)).take i) ++ (t ++ flat ((l.take (cnt b.size r)).drop (i + 1))) := by
      rw [bodT_flat, List.take_set, set_at _ i _ hT, flat_app]; rfl
    rw [hall] at e1
    have f1 : strNums b = (strNums (flat ((l.take (cnt b.size r)).take i)) ++ u) ++ c :: (v ++ strNums (flat ((l.take (cnt b.size r)).drop (i + 1)))) := by
      conv => lhs; rw [e1]
      rw [strNums_append, strNums_append, hb]; simp [List.append_assoc]
    have f2 : strNums (bodT (l.set i (2, sq, (i : Int), t)) (cnt b.size r)) = (strNums (flat ((l.take (cnt b.size r)).take i)) ++ u) ++ d :: (v ++ strNums (flat ((l.take (cnt b.size r)).drop (i + 1)))) := by
      rw [e2, strNums_append, strNums_append, hb']; simp [List.append_assoc]
    have hne := crc_turn _ _ c d f1 f2 hcd
    have hszz : (bodT (l.set i (2, sq, (i : Int), t)) (cnt b.size r)).size = b.size := by
      have q1 := congrArg List.length f1
      have q2 := congrArg List.length f2
      rw [strNums_length, List.length_append, List.length_cons] at q1 q2
      omega
    generalize bodT (l.set i (2, sq, (i : Int), t)) (cnt b.size r) = bb at *
    unfold fin slf sb
    dsimp only
    have hU := crc_U b
    rw [s4_12 _ _ _ (by unfold U; omega), s4_8 _ _ _ hU, hszz, w32 (by omega) (by omega), if_neg (fun h => h rfl), if_pos hne]
  · rw [hL, Nat.add_sub_cancel]
    refine ⟨fun j hj => ?_, rfl, rfl, fun j hj => ?_⟩
    · rw [List.getElem?_eq_getElem (by omega), Option.map_some, Option.getD_some]
      by_cases hij : i = j
      · subst hij
        rw [List.getElem_set_self]
        exact part_ok2 sq i t hs0 (by omega) h5
      · rw [List.getElem_set_ne hij]
        exact hpr j _
    · rw [List.getElem?_eq_getElem (by omega), Option.map_some, Option.getD_some]
      by_cases hij : i = j
      · subst hij
        rw [List.getElem_set_self]
        unfold pat_
        show ((2 : Int) == 2 && (sq == sq && (i : Int) == (i : Int))) = true
        simp
      · rw [List.getElem_set_ne hij]
        exact hpat j hj _
theorem u8_wf {x : Int} (h : (Lit.int .u8 x).wf = true) : 0 ≤ x ∧ x < 256 := by
  simp only [Lit.wf, Bool.and_eq_true, decide_eq_true_eq] at h
  have e1 : IntKind.min .u8 = 0 := by decide
  have e2 : IntKind.max .u8 = 255 := by decide
  omega
theorem law (x1 : Int) (x2 : Int) (x3 : Int) (x4 : Int) (x5 : Int) (x6 : Int) (x7 : (List (ByteArray × Bool × ByteArray))) (x8 : Int) (x9 : Int) (x10 : Int) (g : gdT [.int .i64, .int .i64, .int .i64, .int .u32, .int .u32, .int .u32, .sl (.str (.bool (.str .nil))), .int .i64, .int .i64, .int .u8] (x1, x2, x3, x4, x5, x6, x7, x8, x9, x10)) : ∃ k, F7 k x1 x2 x3 x4 x5 x6 x7 x8 x9 x10 = some true := by
  refine ⟨2000000, ?_⟩
  have hK : 2000000 ≤ 2000000 := Nat.le_refl _
  have h4 := u32_wf (x := x4) g.2.2.2.1
  have h5 := u32_wf (x := x5) g.2.2.2.2.1
  have h6 := u32_wf (x := x6) g.2.2.2.2.2.1
  have h10 := u8_wf (x := x10) g.2.2.2.2.2.2.2.2.2
  unfold F7
  rw [geom_run, Option.bind_some, shaped_run _ hK x4 x5 x6 h4.1 h5.1 h6.1, Option.bind_some]
  dsimp only
  have hsm := shw_small x7
  have hpv : 0 ≤ x5 % (1 + x4 % 1000) := Int.emod_nonneg _ (by omega)
  generalize shw x7 = w at *
  generalize 32 + x1 % 33 = p at *
  generalize 3 + x2 % 4 = n at *
  generalize 4 + x3 % 4 = g at *
  generalize x5 % (1 + x4 % 1000) = pv at *
  generalize 1 + x6 % (1 + x4 % 1000) = fr at *
  generalize 1 + x4 % 1000 = sq at *
  rw [cut_run _ hK p n g sq pv fr hpv w hsm, Option.bind_some, alive, Option.bind_some]
  rcases cut_cases (rfl : cutR p n g sq pv fr w = _) with ⟨e, h, he⟩ | ⟨h, hR, hb, h1, h2, h3, h4', hm⟩
  · rw [h]
    simp only [sel, Option.bind_some, Bool.not_true, cond_false]
    rw [bne_iff_ne.2 he, cond_true]; rfl
  · rw [h]
    unfold Right at hR
    have hr : ((p - 15).toNat : Int) = p - 15 := by omega
    have hf := bb_few hb
    simp only [sel, Option.bind_some, Bool.not_true, cond_false]
    rw [show ((0 : Int) != 0) = false from rfl, cond_false]
    generalize bb w = b at *
    generalize (p - 15).toNat = r at *
    have hr0 : 0 < r := by omega
    have hcl := cnt_le b.size r hr0
    have hc1 : 0 < cnt b.size r := (cnt_in b.size r 0 hr0).2 (by omega)
    have hl := frs_len b sq pv fr r
    have hy : ∃ y, (cond (x10 == 0) (some 1) (some x10) : Option Int) = some y ∧ 1 ≤ y ∧ y < 256 := by
      by_cases h0 : x10 = 0
      · subst h0; exact ⟨1, rfl, by omega, by omega⟩
      · rw [beq_eq_false_iff_ne.2 h0]; exact ⟨x10, rfl, by omega, by omega⟩
    obtain ⟨y, hy, hy1, hy2⟩ := hy
    rw [decide_eq_false (show ¬ ((frs b sq pv fr r).length : Int) < 2 by omega), Option.bind_some, cond_false, hy, Option.bind_some, w64 (by omega) (by omega), pick_run _ x8 _ (by omega) (by omega), Option.bind_some]
    have hi0 := Int.emod_nonneg x8 (show (((frs b sq pv fr r).length : Int) - 1) ≠ 0 by omega)
    have hi1 := Int.emod_lt_of_pos x8 (show (0 : Int) < (((frs b sq pv fr r).length : Int) - 1) by omega)
    obtain ⟨i, hi⟩ := Int.eq_ofNat_of_zero_le hi0
    rw [hi] at hi0 hi1 ⊢
    have hi2 : i < cnt b.size r := by omega
    simp only [ixn, Int.toNat_natCast, frs_at b sq pv fr r i hi2, Option.bind_some]
    have hib := (cnt_in b.size r i hr0).1 hi2
    have hmul : (i + 1) * r = i * r + r := by rw [Nat.add_mul, Nat.one_mul]
    have hts : (prt b sq r i).2.2.2.size = min (min ((i + 1) * r) b.size) b.size - i * r := by
      unfold prt; rw [ByteArray.size_extract]
    have ht1 : 0 < (prt b sq r i).2.2.2.size := by omega
    have ht2 : (prt b sq r i).2.2.2.size ≤ 900 := by omega
    have htj := turned_join b sq pv fr r hr0 hf hpv h1 h2 h3 h4' 2000000 hK i hi2
    have hp1 : (prt b sq r i).1 = 2 := rfl
    have hp2 : (prt b sq r i).2.1 = sq := rfl
    have hp3 : (prt b sq r i).2.2.1 = (i : Int) := rfl
    rw [hp1, hp2, hp3]
    generalize (prt b sq r i).2.2.2 = t at *
    rw [ne_ba t ht1, cond_false, grdD (by omega), strNums_length, pick_run _ x9 _ (by omega) (by omega), Option.bind_some]
    have hj0 := Int.emod_nonneg x9 (show (t.size : Int) ≠ 0 by omega)
    have hj1 := Int.emod_lt_of_pos x9 (show (0 : Int) < (t.size : Int) by omega)
    obtain ⟨j, hj⟩ := Int.eq_ofNat_of_zero_le hj0
    rw [hj] at hj0 hj1 ⊢
    have hjl : j < (strNums t).length := by rw [strNums_length]; omega
    have hjs : (strNums t)[j]? = some (strNums t)[j] := List.getElem?_eq_getElem hjl
    have hbyt := strNums_bytes t _ (List.getElem_mem hjl)
    simp only [ixn, Int.toNat_natCast, hjs, Option.bind_some]
    obtain ⟨q1, q2, q3⟩ := turned hbyt ⟨hy1, hy2⟩
    have hset : (strNums t).set j (bits .xor .u8 (strNums t)[j] y) = (strNums t).take j ++ bits .xor .u8 (strNums t)[j] y :: (strNums t).drop (j + 1) := by
      rw [List.set_eq_take_append_cons_drop, if_pos hjl]
    have hsp : strNums t = (strNums t).take j ++ (strNums t)[j] :: (strNums t).drop (j + 1) := by
      rw [← List.drop_eq_getElem_cons hjl, List.take_append_drop]
    have hbs : Bytes ((strNums t).set j (bits .xor .u8 (strNums t)[j] y)) := by
      intro x hx
      rcases List.mem_or_eq_of_mem_set hx with h | rfl
      · exact strNums_bytes t x h
      · exact ⟨q1, q2⟩
    rw [htj (strOfNums ((strNums t).set j (bits .xor .u8 (strNums t)[j] y))) _ _ _ _ hsp (by rw [nums_son _ hbs, hset]) q3, Option.bind_some]
    rfl
end Go.Proofs.YtlnadpijicfceaaDoor.PureGroupTurned

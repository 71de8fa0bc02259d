/- Groups that are shaped; how they come back from their frames. -/
import Derived.Test.YtlnadpijicfceaaDoorPCut
import Derived.Test.YtlnadpijicfceaaDoorPBatch4
namespace Go.Proofs.YtlnadpijicfceaaDoor.PShaped
open Go.Proofs.YtlnadpijicfceaaDoor.PJoin Go.Proofs.YtlnadpijicfceaaDoor.PJoin2
open Go.RowKit Go.Proofs.YtlnadpijicfceaaDoor.Mc Go.Proofs.YtlnadpijicfceaaDoor.N Go.Proofs.YtlnadpijicfceaaDoor.Plain Go.Proofs.YtlnadpijicfceaaDoor.PBatch1 Go.Proofs.YtlnadpijicfceaaDoor.PBatch2 Go.Proofs.YtlnadpijicfceaaDoor.PBatch3 Go.Proofs.YtlnadpijicfceaaDoor.PBatch4 Go.Proofs.YtlnadpijicfceaaDoor.PG4 Go.Proofs.YtlnadpijicfceaaDoor.PPiece Go.Proofs.YtlnadpijicfceaaDoor.PLay Go.Proofs.YtlnadpijicfceaaDoor.PCut Go.Proofs.YtlnadpijicfceaaDoor.PSort Go.Proofs.YtlnadpijicfceaaDoor.PSorted
open Go.Proofs.YtlnadpijicfceaaDoor.PCrc (crc refcrc_run sum_run fd_lt)
open Go.Proofs.YtlnadpijicfceaaDoor.PBook (sw writes_run)
set_option linter.unusedSimpArgs false
set_option linter.unusedVariables false
theorem alive : F15 2000000 = some true := by kernel_rfl
noncomputable def shw (w : List Wr) : List Wr := mk ((w.take 6).map sw)
theorem shaped_run (K : Nat) (hK : 2000000 ≤ K) (a b c : Int) (ha : 0 ≤ a) (hb : 0 ≤ b) (hc : 0 ≤ c) (w : List Wr) : F12 K a b c w = some (1 + a % 1000, b % (1 + a % 1000), 1 + c % (1 + a % 1000), shw w) := by
  have h1 : a.tmod 1000 = a % 1000 := Int.tmod_eq_emod_of_nonneg ha
  have h2 := Int.emod_nonneg a (show (1000 : Int) ≠ 0 by omega)
  have h3 := Int.emod_lt_of_pos a (show (0 : Int) < 1000 by omega)
  have h4 : b.tmod (1 + a % 1000) = b % (1 + a % 1000) := Int.tmod_eq_emod_of_nonneg hb
  have h5 : c.tmod (1 + a % 1000) = c % (1 + a % 1000) := Int.tmod_eq_emod_of_nonneg hc
  have h6 := Int.emod_nonneg c (show (1 + a % 1000 : Int) ≠ 0 by omega)
  have h7 := Int.emod_lt_of_pos c (show (0 : Int) < 1 + a % 1000 by omega)
  have hs := sw_small w 6
  unfold F12
  rw [h1, w32 (x := 1 + a % 1000) (by omega) (by omega), grdT (by rw [bne_iff_ne]; omega), grdT (by rw [bne_iff_ne]; omega), show F11 K w 6 = _ from writes_run K w 6 (by omega) (by omega), Option.bind_some, refmake_run K _ hs (by rw [List.length_map, List.length_take]; omega) hK, Option.bind_some, h4, h5, w32 (x := 1 + c % (1 + a % 1000)) (by omega) (by omega)]
  rfl
theorem shw_small (w : List Wr) : Small2 (shw w) := mk_small (sw_small w 6)
theorem shw_bat {w : List Wr} (h : bright (shw w) = 0) : Bat (shw w) where
  sorted := by unfold shw; rw [mk_keys]; exact srt_sorted _
  keys v hv := (bright_small h v hv).1
  vals v hv := (bright_small h v hv).2.2
  dels v hv hd := by
    obtain ⟨u, hu, rfl⟩ := mk_mem hv
    dsimp only at hd ⊢
    rw [hd]; rfl
  one := (bright_len h).1
  most := (bright_len h).2
/-- a shaped group's cut: none, or its frames -/
theorem cut_cases {p n g sq pv fr : Int} {w : List Wr} {x : Int ⊕ (Int × List Fr)} (h : cutR p n g sq pv fr w = x) : (∃ e, x = .inl e ∧ e ≠ 0) ∨ (x = .inr (0, frs (bb w) sq pv fr (p - 15).toNat) ∧ Right p n g ∧ bright w = 0 ∧ pv < sq ∧ 1 ≤ fr ∧ fr ≤ sq ∧ sq ≤ 2147483647 ∧ ((cnt (bb w).size (p - 15).toNat + 1 : Nat) : Int) ≤ (g - 3) * (n - 1)) := by
  subst h
  unfold cutR
  by_cases hR : Right p n g
  · rw [if_neg (not_not_intro hR)]
    by_cases hb : bright w = 0
    · rw [if_neg (not_not_intro hb)]
      by_cases hq : sq ≤ pv ∨ fr < 1 ∨ sq < fr ∨ 2147483647 < sq
      · rw [if_pos hq]; exact .inl ⟨2, rfl, by decide⟩
      · rw [if_neg hq]
        by_cases hm : (g - 3) * (n - 1) < ((cnt (bb w).size (p - 15).toNat + 1 : Nat) : Int)
        · rw [if_pos hm]; exact .inl ⟨14, rfl, by decide⟩
        · rw [if_neg hm]; exact .inr ⟨rfl, hR, hb, by omega, by omega, by omega, by omega, by omega⟩
    · rw [if_pos hb]; exact .inl ⟨_, rfl, hb⟩
  · rw [if_pos hR]; exact .inl ⟨1, rfl, by decide⟩
/-! frames are joined -/
theorem frs_get (b : ByteArray) (sq pv fr : Int) (r i : Nat) (h : i < (frs b sq pv fr r).length) : (frs b sq pv fr r)[i] = if i < cnt b.size r then prt b sq r i else slf b sq pv fr r := by
  have h2 := frs_len b sq pv fr r
  apply Option.some.inj
  rw [← List.getElem?_eq_getElem h]
  split
  · next hi => exact frs_at _ _ _ _ _ _ hi
  · have : i = cnt b.size r := by omega
    subst this
    exact frs_last _ _ _ _ _
theorem frs_small (b : ByteArray) (sq pv fr : Int) (r : Nat) (hr : 0 < r) (hb : b.size ≤ 900) : Small (frs b sq pv fr r) := by
  have hc := cnt_le b.size r hr
  refine ⟨by rw [frs_len]; omega, fun f hf => ?_⟩
  obtain ⟨i, hi, rfl⟩ := List.getElem_of_mem hf
  rw [frs_get]
  split
  · show (b.extract _ _).size ≤ _
    rw [ByteArray.size_extract]; omega
  · show (sb _ _ _).size ≤ _
    unfold sb; rw [s4_size]; omega
theorem frs_bod (b : ByteArray) (sq pv fr : Int) (r : Nat) (hr : 0 < r) : ∀ i, i ≤ cnt b.size r → bodT (frs b sq pv fr r) i = b.extract 0 (min (i * r) b.size)
  | 0, _ => by
    unfold bodT
    rw [List.take_zero, Nat.zero_mul, Nat.zero_min]
    apply ByteArray.ext
    simp
  | i + 1, h => by
    have hl := frs_len b sq pv fr r
    rw [bodT_succ _ _ (by omega), frs_bod b sq pv fr r hr i (by omega), frs_get, if_pos (by omega)]
    have hib := (cnt_in b.size r i hr).1 (by omega)
    have hmul : (i + 1) * r = i * r + r := by rw [Nat.add_mul, Nat.one_mul]
    unfold prt
    dsimp only
    rw [show min (i * r) b.size = i * r by omega, ByteArray.extract_append_extract]
    congr 1 <;> omega
theorem frs_all (b : ByteArray) (sq pv fr : Int) (r : Nat) (hr : 0 < r) : bodT (frs b sq pv fr r) (cnt b.size r) = b := by
  have hend : ¬ cnt b.size r * r < b.size := fun hlt => absurd ((cnt_in b.size r (cnt b.size r) hr).2 hlt) (by omega)
  rw [frs_bod b sq pv fr r hr _ (Nat.le_refl _), show min (cnt b.size r * r) b.size = b.size by omega]
  exact ByteArray.extract_zero_size
/-- what a group's frames say -/
theorem frs_pr (b : ByteArray) (sq pv fr : Int) (r : Nat) (hr : 0 < r) (hb1 : 1 ≤ b.size) (hb : b.size ≤ 900) (h1 : 0 ≤ pv) (h2 : pv < sq) (h3 : 1 ≤ fr) (h4 : fr ≤ sq) (h5 : sq ≤ 2147483647) (i : Nat) (hi : i < (frs b sq pv fr r).length) : prf (frs b sq pv fr r)[i] = true := by
  have hc1 : 0 < cnt b.size r := (cnt_in b.size r 0 hr).2 (by omega)
  rw [frs_get]
  split
  · next h => exact part_ok b sq r i hr h (by omega) h5
  · exact seal_ok sq ((cnt b.size r : Nat) : Int) pv fr (crc b) (b.size : Int) (by omega) h5 (by omega) h1 h2 h3 h4 (by unfold U; omega) (by omega)
theorem frs_pat (b : ByteArray) (sq pv fr : Int) (r i : Nat) (h : i < cnt b.size r) (hi : i < (frs b sq pv fr r).length) : pat_ sq i (frs b sq pv fr r)[i] = true := by
  rw [frs_get, if_pos h]
  unfold pat_ prt
  simp
theorem frs_join {w : List Wr} (sq pv fr : Int) (r : Nat) (hr : 0 < r) (hw : Bat w) (h1 : 0 ≤ pv) (h2 : pv < sq) (h3 : 1 ≤ fr) (h4 : fr ≤ sq) (h5 : sq ≤ 2147483647) (K : Nat) (hK : 2000000 ≤ K) : F17 K (frs (bb w) sq pv fr r) = some (sq, pv, fr, w, 0) := by
  have hf := bb_few hw.bright
  have hback := hw.back
  generalize bb w = b at *
  have hc1 : 0 < cnt b.size r := (cnt_in b.size r 0 hr).2 (by omega)
  have hl := frs_len b sq pv fr r
  have hz : (frs b sq pv fr r)[(frs b sq pv fr r).length - 1]? = some (slf b sq pv fr r) := by
    rw [hl, Nat.add_sub_cancel]; exact frs_last _ _ _ _ _
  rw [join_run K hK _ (frs_small b sq pv fr r hr hf.2) (fun i hi => by
    rw [frs_bod b sq pv fr r hr i (by omega), ByteArray.size_extract]; omega) (by omega) _ hz, hl, Nat.add_sub_cancel, frs_all b sq pv fr r hr]
  rw [if_pos]
  · unfold fin slf sb
    dsimp only
    have hU := crc_U b
    rw [s4_12 _ _ _ (by unfold U; omega), s4_8 _ _ _ hU, s4_0 _ _ _ (by unfold U; omega), s4_4 _ _ _ (by unfold U; omega), w32 (by omega) (by omega), if_neg (fun h => h rfl), if_neg (fun h => h rfl), hback, if_neg (fun h => h rfl)]
  · refine ⟨fun j hj => ?_, rfl, rfl, fun j hj => ?_⟩
    · rw [List.getElem?_eq_getElem (by omega), Option.map_some, Option.getD_some]
      exact frs_pr b sq pv fr r hr hf.1 hf.2 h1 h2 h3 h4 h5 j _
    · rw [List.getElem?_eq_getElem (by omega), Option.map_some, Option.getD_some]
      exact frs_pat b sq pv fr r j hj _
end Go.Proofs.YtlnadpijicfceaaDoor.PShaped

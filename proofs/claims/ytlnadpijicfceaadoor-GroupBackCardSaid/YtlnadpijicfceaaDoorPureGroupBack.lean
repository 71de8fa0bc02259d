/- GroupBack's plain law. -/
import Derived.Test.YtlnadpijicfceaaDoorPShaped
namespace Go.Proofs.YtlnadpijicfceaaDoor.PureGroupBack
open Go.RowKit Go.Proofs.YtlnadpijicfceaaDoor.Mc Go.Proofs.YtlnadpijicfceaaDoor.N Go.Proofs.YtlnadpijicfceaaDoor.Plain Go.Proofs.YtlnadpijicfceaaDoor.PJoin Go.Proofs.YtlnadpijicfceaaDoor.PCut Go.Proofs.YtlnadpijicfceaaDoor.PShaped Go.Proofs.YtlnadpijicfceaaDoor.PBatch1 Go.Proofs.YtlnadpijicfceaaDoor.PBatch2 Go.Proofs.YtlnadpijicfceaaDoor.PBatch4
set_option linter.unusedSimpArgs false
set_option linter.unusedVariables false
theorem sameG (K : Nat) (hK : 2000000 ≤ K) (a b c : Int) (l : List PBatch1.Wr) (hl : l.length ≤ 1000) : F19 K a b c l a b c l = some true := by
  unfold F19
  rw [beq_self_eq_true, beq_self_eq_true, beq_self_eq_true, cond_true, cond_true, cond_true, PBook.sameW_run K l (by omega) (by omega)]; rfl
theorem law (x1 : Int) (x2 : Int) (x3 : Int) (x4 : Int) (x5 : Int) (x6 : Int) (x7 : (List (ByteArray × Bool × ByteArray))) (g : gdT [.int .i64, .int .i64, .int .i64, .int .u32, .int .u32, .int .u32, .sl (.str (.bool (.str .nil)))] (x1, x2, x3, x4, x5, x6, x7)) : ∃ k, F6 k x1 x2 x3 x4 x5 x6 x7 = some true := by
  refine ⟨2000000, ?_⟩
  have hK : 2000000 ≤ 2000000 := Nat.le_refl _
  have h4 := u32_wf (x := x4) g.2.2.2.1
  have h5 := u32_wf (x := x5) g.2.2.2.2.1
  have h6 := u32_wf (x := x6) g.2.2.2.2.2.1
  unfold F6
  rw [geom_run, Option.bind_some, shaped_run _ hK x4 x5 x6 h4.1 h5.1 h6.1, Option.bind_some]
  dsimp only
  have hsm := shw_small x7
  have hpv : 0 ≤ x5 % (1 + x4 % 1000) := Int.emod_nonneg _ (by omega)
  have hbat := fun h => shw_bat (w := x7) h
  generalize shw x7 = w at *
  have hRb := book_right x1 x2 x3
  generalize 32 + x1 % 33 = p at *
  generalize 3 + x2 % 4 = n at *
  generalize 4 + x3 % 4 = g at *
  generalize x5 % (1 + x4 % 1000) = pv at *
  generalize 1 + x6 % (1 + x4 % 1000) = fr at *
  generalize 1 + x4 % 1000 = sq at *
  rw [cut_run _ hK p n g sq pv fr hpv w hsm, Option.bind_some, alive, Option.bind_some]
  rcases cut_cases (rfl : cutR p n g sq pv fr w = _) with ⟨e, h, he⟩ | ⟨h, hR, hb, h1, h2, h3, h4, hm⟩
  · rw [h]
    simp only [sel, Option.bind_some, Bool.not_true, cond_false]
    rw [bne_iff_ne.2 he, cond_true]
  · rw [h]
    have hRR := hR
    unfold Right at hR
    have hr : ((p - 15).toNat : Int) = p - 15 := by omega
    have hf := bb_few hb
    have hbt := hbat hb
    have hl := frs_len (bb w) sq pv fr (p - 15).toNat
    simp only [sel, Option.bind_some, Bool.not_true, cond_false]
    rw [show ((0 : Int) != 0) = false from rfl, cond_false, refbytes_run _ w hsm hK, Option.bind_some]
    unfold bout
    rw [if_pos hb]
    dsimp only
    rw [frs_join sq pv fr (p - 15).toNat (by omega) hbt hpv h1 h2 h3 h4 _ hK, Option.bind_some]
    dsimp only
    rw [show ((0 : Int) == 0) = true from rfl, cond_true, sameG _ hK _ _ _ _ (by have := hbt.most; omega), Option.bind_some, cond_true, need_run _ hRR (bb w).size (p - 15).toNat hr hf.1 (by omega), Option.bind_some, hl, beq_self_eq_true, cond_true, most_run _ hRR, Option.bind_some, decide_eq_true hm]
end Go.Proofs.YtlnadpijicfceaaDoor.PureGroupBack

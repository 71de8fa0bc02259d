/- GroupParts' plain law. -/
import Derived.Test.YtlnadpijicfceaaDoorPShaped
namespace Go.Proofs.YtlnadpijicfceaaDoor.PureGroupParts
open Go.RowKit Go.Proofs.YtlnadpijicfceaaDoor.Mc Go.Proofs.YtlnadpijicfceaaDoor.N Go.Proofs.YtlnadpijicfceaaDoor.Plain Go.Proofs.YtlnadpijicfceaaDoor.PJoin Go.Proofs.YtlnadpijicfceaaDoor.PCut Go.Proofs.YtlnadpijicfceaaDoor.PShaped Go.Proofs.YtlnadpijicfceaaDoor.PBatch1 Go.Proofs.YtlnadpijicfceaaDoor.PBatch2 Go.Proofs.YtlnadpijicfceaaDoor.PBatch4
set_option linter.unusedSimpArgs false
set_option linter.unusedVariables false
theorem law (x1 : Int) (x2 : Int) (x3 : Int) (x4 : Int) (x5 : Int) (x6 : Int) (x7 : (List (ByteArray × Bool × ByteArray))) (g : gdT [.int .i64, .int .i64, .int .i64, .int .u32, .int .u32, .int .u32, .sl (.str (.bool (.str .nil)))] (x1, x2, x3, x4, x5, x6, x7)) : ∃ k, F8 k x1 x2 x3 x4 x5 x6 x7 = some true := by
  refine ⟨2000000, ?_⟩
  have hK : 2000000 ≤ 2000000 := Nat.le_refl _
  have h4 := u32_wf (x := x4) g.2.2.2.1
  have h5 := u32_wf (x := x5) g.2.2.2.2.1
  have h6 := u32_wf (x := x6) g.2.2.2.2.2.1
  unfold F8
  rw [geom_run, Option.bind_some, shaped_run _ hK x4 x5 x6 h4.1 h5.1 h6.1, Option.bind_some]
  dsimp only
  have hsm := shw_small x7
  have hpv : 0 ≤ x5 % (1 + x4 % 1000) := Int.emod_nonneg _ (by omega)
  have hbat := fun h => shw_bat (w := x7) h
  generalize shw x7 = w at *
  have hRb := book_right x1 x2 x3
  generalize 32 + x1 % 33 = p at *
  generalize 3 + x2 % 4 = n at *
  generalize 4 + x3 % 4 = g at *
  generalize x5 % (1 + x4 % 1000) = pv at *
  generalize 1 + x6 % (1 + x4 % 1000) = fr at *
  generalize 1 + x4 % 1000 = sq at *
  rw [cut_run _ hK p n g sq pv fr hpv w hsm, Option.bind_some, alive, Option.bind_some]
  rcases cut_cases (rfl : cutR p n g sq pv fr w = _) with ⟨e, h, he⟩ | ⟨h, hR, hb, h1, h2, h3, h4, hm⟩
  · rw [h]
    simp only [sel, Option.bind_some, Bool.not_true, cond_false]
    rw [bne_iff_ne.2 he, cond_true]
  · rw [h]
    have hRR := hR
    unfold Right at hR
    have hr : ((p - 15).toNat : Int) = p - 15 := by omega
    have hf := bb_few hb
    have hl := frs_len (bb w) sq pv fr (p - 15).toNat
    simp only [sel, Option.bind_some, Bool.not_true, cond_false]
    rw [show ((0 : Int) != 0) = false from rfl, cond_false]
    have hrefb := refbytes_run _ w hsm hK
    unfold bout at hrefb
    rw [if_pos hb] at hrefb
    generalize bb w = b at *
    generalize (p - 15).toNat = r at *
    have hr0 : 0 < r := by omega
    have hcl := cnt_le b.size r hr0
    have hc1 : 0 < cnt b.size r := (cnt_in b.size r 0 hr0).2 (by omega)
    have hat := fun i h => frs_at b sq pv fr r i h
    have hlast := frs_last b sq pv fr r
    have hbod := frs_bod b sq pv fr r hr0
    have hall := frs_all b sq pv fr r hr0
    have hsucc := fun i h => bodT_succ (frs b sq pv fr r) i h
    have hget := fun i h => frs_get b sq pv fr r i h
    generalize frs b sq pv fr r = l at *
    have hn : IntKind.wrap .i64 ((l.length : Int) - 1) = ((cnt b.size r : Nat) : Int) := by rw [w64 (by omega) (by omega)]; omega
    have hn2 : IntKind.wrap .i64 ((l.length : Int) - 2) = ((cnt b.size r : Nat) : Int) - 1 := by rw [w64 (by omega) (by omega)]; omega
    have hloop : loopN (L8_22 2000000 (p, n, g) (sq, pv, fr, w) (0, l)) 2000000 ((⟨#[]⟩ : ByteArray), 0) = some (.inr b) := by
      refine loop_go (fun i => (bodT l i, (i : Int))) (cnt b.size r) (by rfl) (by omega) (fun i hi => ?_) ?_
      · unfold L8_22
        dsimp only
        have hib := (cnt_in b.size r i hr0).1 hi
        have hmul : (i + 1) * r = i * r + r := by rw [Nat.add_mul, Nat.one_mul]
        rw [hn, condT (by omega), hn2]
        simp only [ixn, Int.toNat_natCast, hat i hi, Option.bind_some]
        have hne : ((prt b sq r i).2.2.2.toList == (⟨#[]⟩ : ByteArray).toList) = false := by
          rw [PFd.beq_ba]
          refine decide_eq_false fun e => ?_
          have := congrArg ByteArray.size e
          unfold prt at this
          rw [ByteArray.size_extract] at this
          have z : (⟨#[]⟩ : ByteArray).size = 0 := rfl
          omega
        rw [hne, cond_false]
        unfold prt
        dsimp only
        rw [w32 (by omega) (by omega), show ((2 : Int) != 2) = false from rfl, cond_false, bne_self_eq_false, cond_false, bne_self_eq_false, cond_false, room_run _ hRR, Option.bind_some]
        have hrm : (cond (decide ((i : Int) < ((cnt b.size r : Nat) : Int) - 1)) (some (((b.extract (i * r) (min ((i + 1) * r) b.size)).size : Int) != p - 15)) (some false) : Option Bool) = some false := by
          by_cases h2 : (i : Int) < ((cnt b.size r : Nat) : Int) - 1
          · have h3 := (cnt_in b.size r (i + 1) hr0).1 (by omega)
            rw [condT h2, ByteArray.size_extract, show min (min ((i + 1) * r) b.size) b.size - i * r = r by omega, hr, bne_self_eq_false]
          · rw [condF h2]
        rw [hrm, Option.bind_some, cond_false, w64 (by omega) (by omega), grdD (by
          rw [hbod i (by omega), ByteArray.size_extract, ByteArray.size_extract]; omega), hsucc i (by omega), hget i (by omega), if_pos hi]
        rfl
      · unfold L8_22
        dsimp only
        rw [hn, condF (by omega), hall]
    rw [hloop]
    simp only [Option.bind_some, sel]
    rw [hrefb, Option.bind_some, hn, condT (by omega)]
    simp only [ixn, Int.toNat_natCast, hlast, Option.bind_some]
    unfold slf
    dsimp only
    rw [w32 (by omega) (by omega), beq_self_eq_true, beq_self_eq_true, beq_self_eq_true, cond_true, cond_true, cond_true, beq_self_eq_true]
end Go.Proofs.YtlnadpijicfceaaDoor.PureGroupParts

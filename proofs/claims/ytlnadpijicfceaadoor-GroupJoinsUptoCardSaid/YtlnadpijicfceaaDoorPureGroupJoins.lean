/- GroupJoins' plain law. -/
import Derived.Test.YtlnadpijicfceaaDoorPJoin2
namespace Go.Proofs.YtlnadpijicfceaaDoor.PureGroupJoins
open Go.RowKit Go.Proofs.YtlnadpijicfceaaDoor.Mc Go.Proofs.YtlnadpijicfceaaDoor.N Go.Proofs.YtlnadpijicfceaaDoor.Plain Go.Proofs.YtlnadpijicfceaaDoor.PJoin Go.Proofs.YtlnadpijicfceaaDoor.PJoin2 Go.Proofs.YtlnadpijicfceaaDoor.PBatch3
set_option linter.unusedSimpArgs false
set_option linter.unusedVariables false
theorem alive : F15 2000000 = some true := by kernel_rfl
theorem sum_mem : ∀ (ns : List Nat) (n : Nat), n ∈ ns → n ≤ ns.sum
  | [], _, h => by simp at h
  | m :: ns, n, h => by
    rw [List.sum_cons]
    rcases List.mem_cons.1 h with rfl | h
    · omega
    · have := sum_mem ns n h; omega
theorem bod_sum (l : List Fr) : ∀ i, i ≤ l.length → (bodT l i).size ≤ ((l.take i).map fun f => f.2.2.2.size + 1).sum
  | 0, _ => Nat.zero_le _
  | i + 1, h => by
    have ih := bod_sum l i (by omega)
    rw [bodT_succ l i (by omega), ByteArray.size_append, take_snoc1 (by omega : i < l.length), List.map_append, List.sum_append]
    simp only [List.map_cons, List.map_nil, List.sum_cons, List.sum_nil]
    omega
theorem take_sum (l : List Nat) (i : Nat) : (l.take i).sum ≤ l.sum := by
  have := congrArg List.sum (List.take_append_drop i l)
  rw [List.sum_append] at this
  omega
theorem sameG (K : Nat) (hK : 2000000 ≤ K) (a b c : Int) (l : List PBatch1.Wr) (hl : l.length ≤ 1000) : F19 K a b c l a b c l = some true := by
  unfold F19
  rw [beq_self_eq_true, beq_self_eq_true, beq_self_eq_true, cond_true, cond_true, cond_true, PBook.sameW_run K l (by omega) (by omega)]; rfl
theorem law (x1 : List Fr) (g : gdT [.sl (.int .i64 (.int .u32 (.int .u32 (.str .nil))))] x1) (b : blkT [.sl (.int .i64 (.int .u32 (.int .u32 (.str .nil))))] x1 ≤ 1048576) : ∃ k, F4 k x1 = some true := by
  refine ⟨2000000, ?_⟩
  have hK : 2000000 ≤ 2000000 := Nat.le_refl _
  have b' : (x1.map fun z : Fr => (z.2.2.2.size + 0) + 1).sum ≤ 1048576 := b
  have hbn : bnds (x1.length : Int) 0 (mn (x1.length : Int) 20) = true := by
    unfold bnds mn
    split <;> exact decide_eq_true (by omega)
  have hcut : cut x1 0 (mn (x1.length : Int) 20) = x1.take 20 := by
    unfold cut mn
    rw [show ((0 : Int).toNat) = 0 from rfl, List.drop_zero]
    split
    · rfl
    · rw [Int.toNat_natCast, List.take_length, List.take_of_length_le (by omega)]
  unfold F4
  rw [grdT hbn, hcut]
  have hll : (x1.take 20).length ≤ 20 := by rw [List.length_take]; omega
  have hsum : ((x1.take 20).map fun z : Fr => z.2.2.2.size + 1).sum ≤ 1048576 := by
    rw [List.map_take]
    refine Nat.le_trans (take_sum _ _) ?_
    exact b'
  generalize x1.take 20 = l at *
  have hsm : Small l := ⟨by omega, fun f hf => by
    have := sum_mem _ _ (List.mem_map.2 ⟨f, hf, rfl⟩ : _ ∈ l.map fun z : Fr => z.2.2.2.size + 1)
    omega⟩
  have hbo : ∀ i, i ≤ l.length → (bodT l i).size ≤ 1500000 := fun i hi => by
    have h1 := bod_sum l i hi
    rw [List.map_take] at h1
    have := take_sum (l.map fun z : Fr => z.2.2.2.size + 1) i
    omega
  have hsame : ∃ r : PJoin.Out, F17 2000000 l = some r ∧ F18 2000000 l = some r ∧ r.2.2.2.1.length ≤ 1000 := by
    by_cases h2 : l.length < 2
    · refine ⟨(0, 0, 0, [], 3), ?_, ?_, by simp⟩
      · unfold F17
        rw [condT (by omega)]
      · unfold F18
        rw [condT (by omega)]
    · have hz : l[l.length - 1]? = some l[l.length - 1] := List.getElem?_eq_getElem (by omega)
      have e1 := join_run 2000000 hK l hsm (fun i hi => hbo i (by omega)) (by omega) _ hz
      have e2 := ref_run 2000000 hK l hsm (hbo _ (by omega)) (by omega) _ hz
      refine ⟨_, e1, e2, ?_⟩
      split
      · unfold fin
        split
        · simp
        · split
          · simp
          · split
            · simp
            · have := (bread_small (bodT l (l.length - 1))).2
              show (bread (bodT l (l.length - 1))).1.length ≤ 1000
              omega
      · simp
  obtain ⟨r, e1, e2, hr⟩ := hsame
  rw [e1, Option.bind_some, e2, Option.bind_some, alive, Option.bind_some, cond_true, beq_self_eq_true, cond_true, sameG _ hK _ _ _ _ hr]; rfl
end Go.Proofs.YtlnadpijicfceaaDoor.PureGroupJoins

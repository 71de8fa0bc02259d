/- ShelfDrops' plain law. -/
import Derived.Test.YtnjkfchgakpjgaaDoorPMade
namespace Go.Proofs.YtnjkfchgakpjgaaDoor.PureShelfDrops
open Go.RowKit Go.Proofs.YtnjkfchgakpjgaaDoor.Mc Go.Proofs.YtnjkfchgakpjgaaDoor.N Go.Proofs.YtnjkfchgakpjgaaDoor.Plain Go.Proofs.YtnjkfchgakpjgaaDoor.PureKeys Go.Proofs.YtnjkfchgakpjgaaDoor.PSorted Go.Proofs.YtnjkfchgakpjgaaDoor.PFd Go.Proofs.YtnjkfchgakpjgaaDoor.PAssoc Go.Proofs.YtnjkfchgakpjgaaDoor.PShelf Go.Proofs.YtnjkfchgakpjgaaDoor.PShelfD Go.Proofs.YtnjkfchgakpjgaaDoor.PThose Go.Proofs.YtnjkfchgakpjgaaDoor.PMade
open Go.Proofs.YtnjkfchgakpjgaaDoor.PHand (Sm hk key_run)
set_option linter.unusedSimpArgs false
set_option linter.unusedVariables false
def cd (es : Es) (q t : Int) (i : Nat) : Bool := match mget sEq es (hk (i : Int)) with
  | some a => dp q t a
  | none => false
theorem count_run (K : Nat) (hK : 2000000 ≤ K) (es : Es) (hn : ND es) (x2 x3 : Int) (D : List ByteArray) : loopN (L4_22 K x2 x3 es (D, dr (x2.tmod 22) (x3.tmod 22) es)) K (0, 0) = some (.inr ((cnt (cd es (x2.tmod 22) (x3.tmod 22)) 12 : Nat) : Int)) := by
  refine loop_go (fun i => (((cnt (cd es (x2.tmod 22) (x3.tmod 22)) i : Nat) : Int), (i : Int))) 12 (by rfl) (by omega) (fun i hi => ?_) ?_
  · have hc := cnt_le (cd es (x2.tmod 22) (x3.tmod 22)) i
    unfold L4_22
    dsimp only
    rw [condT (by omega), key_run, Option.bind_some, get_run, Option.bind_some, get_run, Option.bind_some, cnt_succ, w64 (x := (i : Int) + 1) (by omega) (by omega), w64 (x := ((cnt (cd es (x2.tmod 22) (x3.tmod 22)) i : Nat) : Int) + 1) (by omega) (by omega)]
    unfold gl
    rw [get_dr hn]
    generalize cnt (cd es (x2.tmod 22) (x3.tmod 22)) i = n
    unfold cd
    cases mget sEq es (hk (i : Int)) with
    | none => rfl
    | some a =>
      dsimp only
      have hd : ((cond (decide (a.2.1 ≤ x2.tmod 22)) (some true) (some (decide (a.2.2 ≤ x3.tmod 22)))) : Option Bool) = some (dp (x2.tmod 22) (x3.tmod 22) a) := by
        unfold dp
        cases decide (a.2.1 ≤ x2.tmod 22) <;> rfl
      rw [cond_true, hd, Option.bind_some]
      by_cases h : dp (x2.tmod 22) (x3.tmod 22) a = true
      · simp [h]
      · rw [Bool.not_eq_true] at h
        simp [h]
  · unfold L4_22
    dsimp only
    rw [condF (by omega)]
theorem law (x1 : List (List Sm)) (x2 x3 : Int) (g : gdT [.sl (.sl (.int .i64 (.bool (.str .nil))) .nil), .int .u32, .int .u32] (x1, x2, x3)) (b : blkT [.sl (.sl (.int .i64 (.bool (.str .nil))) .nil), .int .u32, .int .u32] (x1, x2, x3) ≤ 1048576) : ∃ k, F4 k x1 x2 x3 = some true := by
  refine ⟨2000000, ?_⟩
  have hK : 2000000 ≤ 2000000 := Nat.le_refl _
  have b' : (x1.map fun z : List Sm => ((z.map fun y : Sm => (y.2.2.size + 0) + 1).sum + 0) + 1).sum + (0 + 0) ≤ 1048576 := b
  have hx : ∀ l ∈ x1, ∀ s ∈ l, s.2.2.size ≤ 1000000000 := fun l hl s hs => by
    have := small_rows (m := 1048576) (by omega) l hl s hs
    omega
  obtain ⟨h1, h2, h3⟩ := mkE_ok x1 (min 20 x1.length)
  have hm := made_run 2000000 hK x1 hx
  generalize mkE x1 (min 20 x1.length) = es at *
  have hs := own_small h2
  have hc := count (th_nodup (dp (x2.tmod 22) (x3.tmod 22)) es) (fun k hk => by
    obtain ⟨a, ha, _⟩ := (th_mem h1 k).1 hk
    exact (h2.get ha).2.1) (cd es (x2.tmod 22) (x3.tmod 22)) (fun i hi => by
    rw [th_mem h1]
    unfold cd
    cases mget sEq es (hk (i : Int)) with
    | none => simp
    | some a => simp)
  have hlen := len_dr (q := x2.tmod 22) (t := x3.tmod 22) h1
  have hstay : ∀ x ∈ dr (x2.tmod 22) (x3.tmod 22) es, x ∈ es ∧ dp (x2.tmod 22) (x3.tmod 22) x.2 = false := fun x hx => stay h1 hx
  have hs2 : Small ((dr (x2.tmod 22) (x3.tmod 22) es).map (·.1)) := fun k hk => by
    obtain ⟨x, hx, rfl⟩ := List.mem_map.1 hk
    exact hs _ (List.mem_map.2 ⟨x, (hstay x hx).1, rfl⟩)
  have hth2 : th (dp (x2.tmod 22) (x3.tmod 22)) (dr (x2.tmod 22) (x3.tmod 22) es) = [] := by
    rw [List.eq_nil_iff_forall_not_mem]
    intro k hk
    obtain ⟨a, ha, hp⟩ := (th_mem (nd_dr h1) k).1 hk
    have := (hstay _ (get_some_mem ha)).2
    rw [hp] at this
    cases this
  unfold F4
  rw [hm, Option.bind_some, Option.bind_some, alive _ hK, Option.bind_some, Bool.not_true, cond_false, Option.bind_some, cond_false, drop_run _ hK _ _ _ hs (by omega), Option.bind_some, count_run _ hK es h1, Option.bind_some]
  simp only [sel]
  rw [hc, beq_self_eq_true, cond_true]
  unfold F15
  rw [Option.bind_some, Option.bind_some, w64 (by omega) (by omega), show (((dr (x2.tmod 22) (x3.tmod 22) es).length : Int) == (es.length : Int) - ((cnt (cd es (x2.tmod 22) (x3.tmod 22)) 12 : Nat) : Int)) = true by rw [beq_iff_eq]; omega, cond_true, drop_run _ hK _ _ _ hs2 (by omega), Option.bind_some, hth2]
  rw [show ((([] : List ByteArray).length : Int) == 0) = true from rfl, cond_true]
  have hdr : dr (x2.tmod 22) (x3.tmod 22) (dr (x2.tmod 22) (x3.tmod 22) es) = dr (x2.tmod 22) (x3.tmod 22) es := by
    show fg (dr (x2.tmod 22) (x3.tmod 22) es) (th (dp (x2.tmod 22) (x3.tmod 22)) (dr (x2.tmod 22) (x3.tmod 22) es)) = _
    rw [hth2]; rfl
  dsimp only
  rw [hdr, top_run _ _ _ (by omega), Option.bind_some]
  have ht : tpe (mx (x2.tmod 22) (x3.tmod 22)) (dr (x2.tmod 22) (x3.tmod 22) es) = 0 := by
    unfold tpe
    refine tp_none _ _ _ fun a ha => ?_
    obtain ⟨x, hx, rfl⟩ := List.mem_map.1 ha
    obtain ⟨hxe, hxp⟩ := hstay x hx
    have he := (h2 x hxe).2.2.1
    unfold dp at hxp
    rw [Bool.or_eq_false_iff, decide_eq_false_iff_not, decide_eq_false_iff_not] at hxp
    unfold mx
    split <;> omega
  rw [ht]; rfl
end Go.Proofs.YtnjkfchgakpjgaaDoor.PureShelfDrops

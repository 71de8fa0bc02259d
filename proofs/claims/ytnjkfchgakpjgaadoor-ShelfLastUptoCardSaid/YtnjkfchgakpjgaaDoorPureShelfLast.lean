/- ShelfLast's plain law. -/
import Derived.Test.YtnjkfchgakpjgaaDoorPMade
namespace Go.Proofs.YtnjkfchgakpjgaaDoor.PureShelfLast
open Go.RowKit Go.Proofs.YtnjkfchgakpjgaaDoor.Mc Go.Proofs.YtnjkfchgakpjgaaDoor.N Go.Proofs.YtnjkfchgakpjgaaDoor.Plain Go.Proofs.YtnjkfchgakpjgaaDoor.PureKeys Go.Proofs.YtnjkfchgakpjgaaDoor.PSorted Go.Proofs.YtnjkfchgakpjgaaDoor.PFd Go.Proofs.YtnjkfchgakpjgaaDoor.PAssoc Go.Proofs.YtnjkfchgakpjgaaDoor.PShelf Go.Proofs.YtnjkfchgakpjgaaDoor.PShelfD Go.Proofs.YtnjkfchgakpjgaaDoor.PThose Go.Proofs.YtnjkfchgakpjgaaDoor.PMade
open Go.Proofs.YtnjkfchgakpjgaaDoor.PHand (Sm hk hws hws_len hws_small key_run)
set_option linter.unusedSimpArgs false
set_option linter.unusedVariables false
def g3 (es : Es) (k : ByteArray) : Ln := ((gl es k).1, (gl es k).2.1, (gl es k).2.2.1)
theorem last_run (K : Nat) (hK : 2000000 ≤ K) (x : List (List Sm)) (hx : ∀ l ∈ x, ∀ s ∈ l, s.2.2.size ≤ 1000000000) (k : ByteArray) : loopN (L3_20 K x k) K (0, ByteArray.empty, 0, 0) = some (g3 (mkE x (min 20 x.length)) k) := by
  refine loop_go (fun i => ((i : Int), g3 (mkE x i) k)) (min 20 x.length) (by rfl) (by omega) (fun i hi => ?_) ?_
  · have hil : i < x.length := by omega
    have hw := PHand.writes_run K hK x[i] 5 (by omega) (by omega) (hx _ (List.getElem_mem hil))
    have hl := hws_len x[i] 5 (by omega)
    have e : x.getD i [] = x[i] := by rw [List.getD_eq_getElem?_getD, List.getElem?_eq_getElem hil]; rfl
    obtain ⟨h1, _, _⟩ := mkE_ok x i
    have hg := get_cm (sq := ((i + 1 : Nat) : Int)) (tp := ((i + 1 : Nat) : Int)) h1 k _ (hws x[i] 5) rfl
    have hs : mkE x (i + 1) = cm ((i + 1 : Nat) : Int) ((i + 1 : Nat) : Int) (mkE x i) (hws x[i] 5) := by rw [← e]; rfl
    unfold L3_20
    dsimp only
    rw [condT (by omega), decide_eq_true (by omega : (i : Int) < 20), Option.bind_some, cond_true, ixn, List.getElem?_eq_getElem hil, Option.bind_some, show F11 K x[i] 5 = _ from hw, Option.bind_some, reffind_run K _ _ (by omega) hK, Option.bind_some, round i (by omega), w64 (by omega) (by omega), hs]
    unfold g3 gl
    rw [hg]
    cases hf : fdn (hws x[i] 5) k (hws x[i] 5).length with
    | none => rfl
    | some w =>
      have hwk := (fdn_some _ _ _ hf).2
      simp only [fo, cond_true]
      cases hd : w.2.1 with
      | true => rfl
      | false => simp [hwk]
  · unfold L3_20
    dsimp only
    by_cases h : min 20 x.length < x.length
    · rw [condT (by omega), decide_eq_false (by omega)]; rfl
    · rw [condF (by omega)]; rfl
def cl (es : Es) (q : Int) (i : Nat) : Bool := match mget sEq es (hk (i : Int)) with
  | some a => lp q a
  | none => false
theorem count_run (K : Nat) (hK : 2000000 ≤ K) (es : Es) (x3 : Int) : loopN (L3_61 K x3 es) K (0, 0) = some ((cnt (cl es (x3.tmod 22)) 12 : Nat) : Int) := by
  refine loop_go (fun i => (((cnt (cl es (x3.tmod 22)) i : Nat) : Int), (i : Int))) 12 (by rfl) (by omega) (fun i hi => ?_) ?_
  · have hc := cnt_le (cl es (x3.tmod 22)) i
    unfold L3_61
    dsimp only
    rw [condT (by omega), key_run, Option.bind_some, get_run, Option.bind_some, cnt_succ, w64 (x := (i : Int) + 1) (by omega) (by omega), w64 (x := ((cnt (cl es (x3.tmod 22)) i : Nat) : Int) + 1) (by omega) (by omega)]
    generalize cnt (cl es (x3.tmod 22)) i = n
    unfold gl cl lp
    cases mget sEq es (hk (i : Int)) with
    | none => rfl
    | some a =>
      by_cases h : a.2.1 = x3.tmod 22
      · simp [h]
      · have hb : (a.2.1 == x3.tmod 22) = false := beq_eq_false_iff_ne.2 h
        rw [hb]
        simp [h]
  · unfold L3_61
    dsimp only
    rw [condF (by omega)]
theorem law (x1 : List (List Sm)) (x2 x3 : Int) (g : gdT [.sl (.sl (.int .i64 (.bool (.str .nil))) .nil), .int .i64, .int .u32] (x1, x2, x3)) (b : blkT [.sl (.sl (.int .i64 (.bool (.str .nil))) .nil), .int .i64, .int .u32] (x1, x2, x3) ≤ 1048576) : ∃ k, F3 k x1 x2 x3 = some true := by
  refine ⟨2000000, ?_⟩
  have hK : 2000000 ≤ 2000000 := Nat.le_refl _
  have b' : (x1.map fun z : List Sm => ((z.map fun y : Sm => (y.2.2.size + 0) + 1).sum + 0) + 1).sum + (0 + 0) ≤ 1048576 := b
  have hx : ∀ l ∈ x1, ∀ s ∈ l, s.2.2.size ≤ 1000000000 := fun l hl s hs => by
    have := small_rows (m := 1048576) (by omega) l hl s hs
    omega
  obtain ⟨h1, h2, h3⟩ := mkE_ok x1 (min 20 x1.length)
  have hr := last_run 2000000 hK x1 hx (hk x2)
  have hm := made_run 2000000 hK x1 hx
  generalize mkE x1 (min 20 x1.length) = es at *
  have hs := own_small h2
  unfold F3
  rw [hm, Option.bind_some, alive _ hK, Option.bind_some, Bool.not_true, cond_false, Option.bind_some, cond_false, key_run, Option.bind_some, hr, Option.bind_some, get_run, Option.bind_some]
  have e1 : ((cond (!(((gl es (hk x2)).1.toList == (g3 es (hk x2)).1.toList) && (((gl es (hk x2)).2.1 == (g3 es (hk x2)).2.1) && (((gl es (hk x2)).2.2.1 == (g3 es (hk x2)).2.2) && true)))) (some true) (some (!((gl es (hk x2)).2.2.2 == ((g3 es (hk x2)).2.1 != 0))))) : Option Bool) = some false := by
    unfold g3
    rw [beq_self_eq_true, beq_self_eq_true, beq_self_eq_true, show (!(true && (true && (true && true)))) = false from rfl, cond_false]
    unfold gl
    cases hg : mget sEq es (hk x2) with
    | none => rfl
    | some a =>
      have := (h2.get hg).2
      have hne : a.2.1 ≠ 0 := by have := this.2.2.1; omega
      simp [hne]
  rw [e1, Option.bind_some, cond_false, count_run _ hK, Option.bind_some, live_run _ hK _ _ hs (by omega), Option.bind_some]
  have hc := count (th_nodup (lp (x3.tmod 22)) es) (fun k hk => by
    obtain ⟨a, ha, _⟩ := (th_mem h1 k).1 hk
    exact (h2.get ha).2.1) (cl es (x3.tmod 22)) (fun i hi => by
    rw [th_mem h1]
    unfold cl
    cases mget sEq es (hk (i : Int)) with
    | none => simp
    | some a => simp)
  rw [hc, beq_self_eq_true]
end Go.Proofs.YtnjkfchgakpjgaaDoor.PureShelfLast

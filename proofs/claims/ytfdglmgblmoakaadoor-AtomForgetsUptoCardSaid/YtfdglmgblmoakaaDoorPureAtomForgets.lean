/- AtomForgets' plain law. -/
import Derived.Test.YtfdglmgblmoakaaDoorPAtom
import Derived.Test.YtfdglmgblmoakaaDoorPHand
namespace Go.Proofs.YtfdglmgblmoakaaDoor.PureAtomForgets
open Go.RowKit Go.Proofs.YtfdglmgblmoakaaDoor.Mc Go.Proofs.YtfdglmgblmoakaaDoor.N Go.Proofs.YtfdglmgblmoakaaDoor.Plain Go.Proofs.YtfdglmgblmoakaaDoor.PureKeys Go.Proofs.YtfdglmgblmoakaaDoor.PFd Go.Proofs.YtfdglmgblmoakaaDoor.PAssoc Go.Proofs.YtfdglmgblmoakaaDoor.PAtom
open Go.Proofs.YtfdglmgblmoakaaDoor.PHand (Sm hk hws hws_len key_run keys_run writes_run)
set_option linter.unusedSimpArgs false
set_option linter.unusedVariables false
def all12 : List ByteArray := (List.range 12).map fun i : Nat => hk (i : Int)
theorem all_at (i : Nat) (h : i < 12) : all12[i]? = some (hk (i : Int)) := by unfold all12; rw [List.getElem?_map, List.getElem?_range h]; rfl
theorem all_len : all12.length = 12 := by unfold all12; rw [List.length_map, List.length_range]
theorem all_run (K : Nat) (hK : 100 ≤ K) : loopN (L3_20 K) K (0, []) = some all12 := by
  refine loop_go (fun i => ((i : Int), (List.range i).map fun i : Nat => hk (i : Int))) 12 rfl (by omega) (fun i hi => ?_) ?_
  · unfold L3_20
    rw [condT (by omega), key_run, Option.bind_some, grdD (by simp; omega), w64 (by omega) (by omega), List.range_succ, List.map_append]; rfl
  · unfold L3_20
    rw [condF (by omega)]; rfl
theorem in_run (K : Nat) (gone : List ByteArray) (i : Nat) (h : i < 12) (hg : gone.length ≤ 1000) (hK : 2000 ≤ K) : loopN (L3_70 K all12 gone (i : Int)) K (false, 0) = some (decide (hk (i : Int) ∈ gone)) := by
  refine loop_go (fun j => (decide (hk (i : Int) ∈ gone.take j), (j : Int))) gone.length (by simp) (by omega) (fun j hj => ?_) ?_
  · unfold L3_70
    dsimp only
    rw [condT (by omega), ixn, List.getElem?_eq_getElem hj, ixn, all_at i h, Option.bind_some, Option.bind_some, w64 (by omega) (by omega), take_snoc1 hj, beq_ba]
    by_cases h1 : hk (i : Int) ∈ gone.take j
    · have h2 : hk (i : Int) ∈ gone.take j ++ [gone[j]] := List.mem_append_left _ h1
      rw [decide_eq_true h1, decide_eq_true h2]; rfl
    · rw [decide_eq_false h1, cond_false, Option.bind_some]
      by_cases h2 : gone[j] = hk (i : Int)
      · have h3 : hk (i : Int) ∈ gone.take j ++ [gone[j]] := List.mem_append_right _ (by rw [h2]; simp)
        rw [decide_eq_true h2, decide_eq_true h3]; rfl
      · have h3 : ¬ hk (i : Int) ∈ gone.take j ++ [gone[j]] := by
          rw [List.mem_append, List.mem_singleton]
          rintro (h | h)
          · exact h1 h
          · exact h2 h.symm
        rw [decide_eq_false h2, decide_eq_false h3]; rfl
  · unfold L3_70
    dsimp only
    rw [condF (by omega), List.take_length]
theorem round (K : Nat) (hK : 2000000 ≤ K) (x3 : List Sm) (hx : ∀ x ∈ x3, x.2.2.size ≤ 1000000000) (gone : List ByteArray) (hg : gone.length ≤ 1000) (es : Es) (hn : ND es) (i : Nat) (h : i < 12) :
    L3_55 K x3 all12 (all12.map (gt es)) gone (all12.map (gt (fg es gone))) (all12.map (gt (cm 9 (fg es gone) (hws x3 8)))) (i : Int) = some (.inl ((i + 1 : Nat) : Int)) := by
  have h1 : (all12.map (gt es))[i]? = some (gt es (hk (i : Int))) := by rw [List.getElem?_map, all_at i h]; rfl
  have h2 : (all12.map (gt (fg es gone)))[i]? = some (gt (fg es gone) (hk (i : Int))) := by rw [List.getElem?_map, all_at i h]; rfl
  have h3 : (all12.map (gt (cm 9 (fg es gone) (hws x3 8))))[i]? = some (gt (cm 9 (fg es gone) (hws x3 8)) (hk (i : Int))) := by rw [List.getElem?_map, all_at i h]; rfl
  have hwl := hws_len x3 8 (by omega)
  have hwr := writes_run K hK x3 8 (by omega) (by omega) hx
  unfold L3_55
  simp only [ixn, Int.toNat_natCast, h1, h2, h3, all_at i h, Option.bind_some]
  rw [condT (by omega), in_run K gone i h hg (by omega), Option.bind_some, show F9 K x3 8 = _ from hwr, Option.bind_some, reffind1_run K _ _ (by omega) hK, Option.bind_some]
  have g1 := gt_fg (hk (i : Int)) gone es hn
  have g2 := gt_cm (seq := 9) (nd_fg (l := gone) hn) (hk (i : Int)) (hws x3 8)
  -- what is forgotten, and what not
  have e1 : ((cond (decide (hk (i : Int) ∈ gone)) (cond (!(((gt (fg es gone) (hk (i : Int))).1.toList == (hk (i : Int)).toList) && (((gt (fg es gone) (hk (i : Int))).2.1 == false) && (((gt (fg es gone) (hk (i : Int))).2.2.1.toList == ByteArray.empty.toList) && (((gt (fg es gone) (hk (i : Int))).2.2.2 == 0) && true))))) (some true) (cond (!(decide (hk (i : Int) ∈ gone))) (some (!(((gt (fg es gone) (hk (i : Int))).1.toList == (gt es (hk (i : Int))).1.toList) && (((gt (fg es gone) (hk (i : Int))).2.1 == (gt es (hk (i : Int))).2.1) && (((gt (fg es gone) (hk (i : Int))).2.2.1.toList == (gt es (hk (i : Int))).2.2.1.toList) && (((gt (fg es gone) (hk (i : Int))).2.2.2 == (gt es (hk (i : Int))).2.2.2) && true)))))) (some false))) (cond (!(decide (hk (i : Int) ∈ gone))) (some (!(((gt (fg es gone) (hk (i : Int))).1.toList == (gt es (hk (i : Int))).1.toList) && (((gt (fg es gone) (hk (i : Int))).2.1 == (gt es (hk (i : Int))).2.1) && (((gt (fg es gone) (hk (i : Int))).2.2.1.toList == (gt es (hk (i : Int))).2.2.1.toList) && (((gt (fg es gone) (hk (i : Int))).2.2.2 == (gt es (hk (i : Int))).2.2.2) && true)))))) (some false))) : Option Bool) = some false := by
    by_cases hg : hk (i : Int) ∈ gone
    · rw [if_pos hg] at g1
      rw [decide_eq_true hg, g1]
      simp
    · rw [if_neg hg] at g1
      rw [decide_eq_false hg, g1]
      simp
  rw [e1, Option.bind_some, cond_false, w64 (by omega) (by omega)]
  cases hf : fdn (hws x3 8) (hk (i : Int)) (hws x3 8).length with
  | none =>
    rw [hf] at g2
    dsimp only at g2
    rw [g2]
    simp [fo]
  | some v =>
    rw [hf] at g2
    dsimp only at g2
    cases hd : v.2.1 with
    | true =>
      rw [hd, if_pos rfl] at g2
      rw [g2]
      simp [fo, hd]
    | false =>
      rw [hd, if_neg (by decide)] at g2
      rw [g2]
      simp [fo, hd]
theorem sum_mem : ∀ (ns : List Nat) (n : Nat), n ∈ ns → n ≤ ns.sum
  | [], _, h => by simp at h
  | m :: ns, n, h => by
    rw [List.sum_cons]
    rcases List.mem_cons.1 h with rfl | h
    · omega
    · have := sum_mem ns n h; omega
theorem law (x1 : List Sm) (x2 : List Int) (x3 : List Sm) (g : gdT [.sl (.int .i64 (.bool (.str .nil))), .sl (.int .i64 .nil), .sl (.int .i64 (.bool (.str .nil)))] (x1, x2, x3)) (b : blkT [.sl (.int .i64 (.bool (.str .nil))), .sl (.int .i64 .nil), .sl (.int .i64 (.bool (.str .nil)))] (x1, x2, x3) ≤ 1048576) : ∃ k, F3 k x1 x2 x3 = some true := by
  refine ⟨2000000, ?_⟩
  have b' : (x1.map fun z : Sm => (z.2.2.size + 0) + 1).sum + ((x2.map fun _ => 0 + 1).sum + (x3.map fun z : Sm => (z.2.2.size + 0) + 1).sum) ≤ 1048576 := b
  have hx1 : ∀ x ∈ x1, x.2.2.size ≤ 1000000000 := fun x hx => by
    have := sum_mem _ _ (List.mem_map.2 ⟨x, hx, rfl⟩ : _ ∈ x1.map fun z : Sm => (z.2.2.size + 0) + 1)
    omega
  have hx3 : ∀ x ∈ x3, x.2.2.size ≤ 1000000000 := fun x hx => by
    have := sum_mem _ _ (List.mem_map.2 ⟨x, hx, rfl⟩ : _ ∈ x3.map fun z : Sm => (z.2.2.size + 0) + 1)
    omega
  unfold F3 F6
  have hK : 2000000 ≤ 2000000 := Nat.le_refl _
  have w1 := writes_run 2000000 hK x1 8 (by omega) (by omega) hx1
  have w3 := writes_run 2000000 hK x3 8 (by omega) (by omega) hx3
  have l1 := hws_len x1 8 (by omega)
  have l3 := hws_len x3 8 (by omega)
  have k2 := keys_run 2000000 x2 6 (by omega) (by omega)
  have hgl : ((x2.take 6).map hk).length ≤ 6 := by rw [List.length_map, List.length_take]; omega
  rw [Option.bind_some, alive _ hK, Option.bind_some, Bool.not_true, cond_false, Option.bind_some, cond_false, show F9 2000000 x1 8 = _ from w1, Option.bind_some, commit_run _ _ _ _ (by omega) (by omega), Option.bind_some, all_run _ (by omega), Option.bind_some,
    get_run _ _ _ (by rw [all_len]; omega) (by rw [all_len]; omega), Option.bind_some, show F12 2000000 x2 6 = _ from k2, Option.bind_some, forget_run _ _ _ (by omega) (by omega), Option.bind_some, get_run _ _ _ (by rw [all_len]; omega) (by rw [all_len]; omega), Option.bind_some,
    show F9 2000000 x3 8 = _ from w3, Option.bind_some, commit_run _ _ _ _ (by omega) (by omega), Option.bind_some, get_run _ _ _ (by rw [all_len]; omega) (by rw [all_len]; omega), Option.bind_some]
  simp only [List.length_map, all_len]
  rw [show (((12 : Nat) : Int) != 12) = false from rfl, cond_false, cond_false, Option.bind_some, cond_false]
  have hl := loop_go (f := L3_55 2000000 x3 all12 (all12.map (gt (cm 7 [] (hws x1 8)))) ((x2.take 6).map hk) (all12.map (gt (fg (cm 7 [] (hws x1 8)) ((x2.take 6).map hk)))) (all12.map (gt (cm 9 (fg (cm 7 [] (hws x1 8)) ((x2.take 6).map hk)) (hws x3 8)))))
    (r := .inr ()) (k := 2000000) (a := (0 : Int)) (fun i => (i : Int)) 12 rfl (by omega) (fun i hi => round 2000000 hK x3 hx3 _ (by omega) _ (nd_cm nd_nil) i hi) (by
      unfold L3_55
      rw [condF (by omega)])
  rw [hl]; rfl
end Go.Proofs.YtfdglmgblmoakaaDoor.PureAtomForgets

/- A step's keys and writes. -/
import Derived.Test.YtfdglmgblmoakaaDoorPAtomRef
import Derived.Test.YtfdglmgblmoakaaDoorPHand
namespace Go.Proofs.YtfdglmgblmoakaaDoor.PAtomStep
open Go.RowKit Go.Proofs.YtfdglmgblmoakaaDoor.Mc Go.Proofs.YtfdglmgblmoakaaDoor.N Go.Proofs.YtfdglmgblmoakaaDoor.Plain Go.Proofs.YtfdglmgblmoakaaDoor.PureKeys Go.Proofs.YtfdglmgblmoakaaDoor.PFd Go.Proofs.YtfdglmgblmoakaaDoor.PAtom
open Go.Proofs.YtfdglmgblmoakaaDoor.PHand (Sm hk hk_size hws hws_len hws_small key_run pick_run)
open Go.Proofs.YtfdglmgblmoakaaDoor.PBook (short short_size sw)
set_option linter.unusedSimpArgs false
set_option linter.unusedVariables false
/-- a step, raw -/
abbrev Stp : Type := Int × Int × List Sm × List Wr × List ByteArray × Bool
def sk (x : Stp) : List ByteArray := (if x.2.2.2.2.2 then (x.2.2.1.take 8).map fun s => hk s.1 else []) ++ (x.2.2.2.2.1.take 5).map (short · 30)
noncomputable def swr (x : Stp) : List Wr := if x.2.2.2.2.2 then hws x.2.2.1 6 else (x.2.2.2.1.take 12).map sw
theorem sk_len (x : Stp) : (sk x).length ≤ 13 := by
  unfold sk
  rw [List.length_append, List.length_map, List.length_take]
  split
  · rw [List.length_map, List.length_take]; omega
  · rw [List.length_nil]; omega
theorem swr_len (x : Stp) : (swr x).length ≤ 12 := by
  unfold swr
  split
  · have := hws_len x.2.2.1 6 (by omega); omega
  · rw [List.length_map, List.length_take]; omega
theorem swr_small (x : Stp) : ∀ w ∈ swr x, w.1.size ≤ 1000000 := by
  unfold swr
  intro w hw
  split at hw
  · have := (hws_small _ _ w hw).1; omega
  · obtain ⟨v, _, rfl⟩ := List.mem_map.1 hw
    have := short_size v.1 60
    show (short v.1 60).size ≤ _
    omega
theorem near_loop (K : Nat) (hK : 100 ≤ K) (l : List Sm) (b : Bool) : loopN (L16_8 K l b) K (0, []) = some (if b then (l.take 8).map (fun s => hk s.1) else []) := by
  cases b with
  | false =>
    refine loop_go (fun i => ((i : Int), [])) 0 (by rfl) (by omega) (fun i hi => absurd hi (by omega)) ?_
    unfold L16_8
    dsimp only
    by_cases h : ((0 : Nat) : Int) < (l.length : Int)
    · rw [condT h]; rfl
    · rw [condF h]; rfl
  | true =>
    rw [if_pos rfl]
    refine loop_go (fun i => ((i : Int), (l.take i).map fun s => hk s.1)) (min 8 l.length) (by rfl) (by omega) (fun i hi => ?_) ?_
    · have hil : i < l.length := by omega
      unfold L16_8
      simp only [ixn, List.getElem?_eq_getElem hil, Option.bind_some, key_run]
      rw [condT (by omega), condT (by omega), Option.bind_some, cond_true, grdD (by simp only [List.length_map, List.length_take, List.length_singleton]; omega), w64 (by omega) (by omega), take_snoc1 hil, List.map_append]; rfl
    · unfold L16_8
      have e : l.take (min 8 l.length) = l.take 8 := by
        rw [List.take_eq_take_iff]; omega
      rw [e]
      by_cases h : min 8 l.length < l.length
      · rw [condT (by omega), condF (by omega)]; rfl
      · rw [condF (by omega)]; rfl
theorem keys_run (K : Nat) (hK : 2000000 ≤ K) (x : Stp) : F16 K x.1 x.2.1 x.2.2.1 x.2.2.2.1 x.2.2.2.2.1 x.2.2.2.2.2 = some (sk x) := by
  have h1 := sk_len x
  unfold sk at h1 ⊢
  rw [List.length_append] at h1
  unfold F16
  rw [near_loop K (by omega), Option.bind_some, show F28 K x.2.2.2.2.1 5 30 = _ from PBook.texts_run K x.2.2.2.2.1 5 30 (by omega) (by omega), Option.bind_some, grdD (by omega)]
theorem writes_run (K : Nat) (hK : 2000000 ≤ K) (x : Stp) (hx : ∀ s ∈ x.2.2.1, s.2.2.size ≤ 1000000000) : F20 K x.1 x.2.1 x.2.2.1 x.2.2.2.1 x.2.2.2.2.1 x.2.2.2.2.2 = some (swr x) := by
  unfold F20 swr
  cases x.2.2.2.2.2 with
  | true => rw [cond_true, show F9 K x.2.2.1 6 = _ from PHand.writes_run K hK x.2.2.1 6 (by omega) (by omega) hx]; rfl
  | false => rw [cond_false, show F30 K x.2.2.2.1 12 = _ from PBook.writes_run K x.2.2.2.1 12 (by omega) (by omega)]; rfl
theorem sum_mem : ∀ (ns : List Nat) (n : Nat), n ∈ ns → n ≤ ns.sum
  | [], _, h => by simp at h
  | m :: ns, n, h => by
    rw [List.sum_cons]
    rcases List.mem_cons.1 h with rfl | h
    · omega
    · have := sum_mem ns n h; omega
end Go.Proofs.YtfdglmgblmoakaaDoor.PAtomStep

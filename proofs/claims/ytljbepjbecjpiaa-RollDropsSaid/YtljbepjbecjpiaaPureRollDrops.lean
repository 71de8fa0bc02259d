/- Plain law: RollDrops. -/
import Derived.Test.YtljbepjbecjpiaaPureDrop
namespace Go.Proofs.Ytljbepjbecjpiaa.PureRollDrops
open Go.RowKit Go.Proofs.Ytljbepjbecjpiaa.Mc Go.Proofs.Ytljbepjbecjpiaa.N Go.Proofs.Ytljbepjbecjpiaa.Plain
open Go.Proofs.Ytljbepjbecjpiaa.PureRoll hiding len0 u32_wf i64_wf
open Go.Proofs.Ytljbepjbecjpiaa.PureMade Go.Proofs.Ytljbepjbecjpiaa.PureDrop
set_option linter.unusedSimpArgs false
set_option linter.unusedVariables false

theorem places_get (l : List (List Int)) (n i : Nat) (h : i < n) : (places l n)[i]'(by rw [places_len]; exact h) = ((i : Int) + 1, 1, spotsOf (grp l i) i) := by simp [places]
theorem low_places (l : List (List Int)) (n : Nat) (f : Nat) : low (f : Int) (places l n) = min f n := by
  have h1 := low_le (f : Int) (places l n)
  rw [places_len] at h1
  by_cases h : low (f : Int) (places l n) < n
  · have h2 := low_ge (f := (f : Int)) (l := places l n) (by rw [places_len]; exact h)
    rw [places_get l n _ h] at h2
    simp only at h2
    by_cases h3 : low (f : Int) (places l n) = 0
    · rw [h3] at h2 ⊢; omega
    · have h4 := low_lt (f := (f : Int)) (l := places l n) (i := low (f : Int) (places l n) - 1) (by omega) (by rw [places_len]; omega)
      rw [places_get l n _ (by omega)] at h4
      simp only at h4
      omega
  · have h5 : low (f : Int) (places l n) = n := by omega
    by_cases h0 : n = 0
    · omega
    · have h4 := low_lt (f := (f : Int)) (l := places l n) (i := n - 1) (by omega) (by rw [places_len]; omega)
      rw [places_get l n _ (by omega)] at h4
      simp only at h4
      omega
theorem of_places (l : List (List Int)) (n d i : Nat) (hi : 1 ≤ i) (hn : i ≤ n) : (d < i → ∃ a b, ofR (i : Int) ((places l n).drop d) = ((i : Int), a, b, true)) ∧ (i ≤ d → ofR (i : Int) ((places l n).drop d) = (0, 0, [], false)) := by
  constructor
  · intro hd
    have hs : (((places l n).drop d).find? fun p => p.1 == (i : Int)).isSome = true := by
      rw [List.find?_isSome]
      refine ⟨((i : Int), 1, spotsOf (grp l (i - 1)) (i - 1)), ?_, by simp⟩
      have hlt : i - 1 - d < ((places l n).drop d).length := by rw [List.length_drop, places_len]; omega
      have e : ((places l n).drop d)[i - 1 - d] = ((i : Int), 1, spotsOf (grp l (i - 1)) (i - 1)) := by
        rw [List.getElem_drop]
        simp only [show d + (i - 1 - d) = i - 1 by omega]
        rw [places_get l n _ (by omega)]
        rw [show ((i - 1 : Nat) : Int) + 1 = (i : Int) by omega]
      rw [← e]
      exact List.getElem_mem hlt
    obtain ⟨p, hp⟩ := Option.isSome_iff_exists.1 hs
    have h1 := List.find?_some hp
    have h2 : p.1 = (i : Int) := by simpa using h1
    exact ⟨p.2.1, p.2.2, by unfold ofR; rw [hp]; simp only [h2]⟩
  · intro hd
    have : ((places l n).drop d).find? (fun p => p.1 == (i : Int)) = none := by
      rw [List.find?_eq_none]
      intro x hx
      obtain ⟨j, hj, rfl⟩ := List.getElem_of_mem hx
      rw [List.length_drop, places_len] at hj
      rw [List.getElem_drop, places_get l n _ (by omega)]
      simp only [beq_iff_eq]
      omega
    unfold ofR; rw [this]

theorem tmod25 {x2 : Int} (h : 0 ≤ x2) : x2.tmod 25 = (((x2 % 25).toNat : Nat) : Int) := by rw [Int.tmod_eq_emod_of_nonneg h]; omega
theorem mn20 (n : Nat) : mn (n : Int) 20 = ((min n 20 : Nat) : Int) := by unfold mn; split <;> omega
theorem loop6 (l : List (List Int)) (x2 : Int) (h2 : 0 ≤ x2) (d : Int) : loopN (L6_22 100 l x2 (d, ((min l.length 20 : Nat) : Int), (places l (min l.length 20)).drop (min (x2 % 25).toNat (min l.length 20)))) 100 1 = some (.inr ()) := by
  have hpl : ∀ p ∈ (places l (min l.length 20)).drop (min (x2 % 25).toNat (min l.length 20)), p.2.2.length ≤ 50 := fun p hp => by
    obtain ⟨i, _, rfl⟩ := List.mem_map.1 (List.mem_of_mem_drop hp)
    have := spotsOf_len (grp l i) i
    show (spotsOf (grp l i) i).length ≤ 50
    omega
  refine loop_go (fun i => ((i + 1 : Nat) : Int)) (min l.length 20) rfl (by omega) (fun i hi => ?_) ?_
  · unfold L6_22
    rw [mn20, condT (by omega), w32 (by omega) (by omega)]
    have ho := of_places l (min l.length 20) (min (x2 % 25).toNat (min l.length 20)) (i + 1) (by omega) (by omega)
    rw [of_run _ _ _ (by rw [List.length_drop, places_len]; omega) hpl, tmod25 h2]
    by_cases hd : min (x2 % 25).toNat (min l.length 20) < i + 1
    · obtain ⟨a, b, e⟩ := ho.1 hd
      rw [e]
      simp only [Option.bind_some]
      rw [decide_eq_true (by omega)]
      simp only [BEq.rfl, Bool.not_true, cond_false, cond_true, bne_self_eq_false, Option.bind_some]
      rw [w64 (by omega) (by omega)]; rfl
    · rw [ho.2 (by omega)]
      simp only [Option.bind_some]
      rw [decide_eq_false (by omega)]
      simp only [BEq.rfl, Bool.not_true, Bool.not_false, cond_false, cond_true, Option.bind_some, List.length_nil]
      rw [decide_eq_false (by omega)]
      simp only [cond_false]
      rw [w64 (by omega) (by omega)]; rfl
  · unfold L6_22
    rw [mn20, condF (by omega)]

theorem law (x1 : (List (List Int))) (x2 : Int) (x3 : Int) (g : gdT [.sl (.sl (.int .i64 .nil) .nil), .int .u32, .int .u32] (x1, x2, x3)) : ∃ k, F6 k x1 x2 x3 = some true := by
  obtain ⟨_, w2, w3⟩ := g
  have h2 : 0 ≤ x2 ∧ x2 < 4294967296 := u32_wf w2
  have h3 : 0 ≤ x3 ∧ x3 < 4294967296 := u32_wf w3
  refine ⟨100, ?_⟩
  unfold F6
  rw [made, alive]
  simp only [Option.bind_some, sel, Bool.not_true, cond_false]
  have ef := tmod25 h2.1
  have hf : (x2 % 25).toNat < 25 := by omega
  have l6 := loop6 x1 x2 h2.1 ((min (x2 % 25).toNat (min x1.length 20) : Nat) : Int)
  have hn : min x1.length 20 ≤ 20 := by omega
  rw [ef, drop_run _ _ _ (by rw [places_len]; omega), low_places]
  simp only [Option.bind_some]
  rw [l6, mn20]
  simp only [Option.bind_some, sel]
  generalize min x1.length 20 = n at hn ⊢
  generalize (x2 % 25).toNat = f at hf ⊢
  have e1 : IntKind.wrap .u32 (IntKind.wrap .i64 ((n : Int) + 1)) = (n : Int) + 1 := by rw [w64 (by omega) (by omega), w32 (by omega) (by omega)]
  have e2 : IntKind.wrap .u32 (n : Int) = n := w32 (by omega) (by omega)
  have e3 : IntKind.wrap .i64 (f : Int) = f := w64 (by omega) (by omega)
  have e4 : mn (f : Int) (n : Int) = ((min f n : Nat) : Int) := by unfold mn; split <;> omega
  have e5 : x3.tmod ((n : Int) + 1) = x3 % ((n : Int) + 1) := Int.tmod_eq_emod_of_nonneg (by omega)
  have q0 := Int.emod_nonneg x3 (show (n : Int) + 1 ≠ 0 by omega)
  have q1 := Int.emod_lt_of_pos x3 (show 0 < (n : Int) + 1 by omega)
  rw [e1, e2, e3, e4, e5]
  generalize x3 % ((n : Int) + 1) = q at q0 q1 ⊢
  rw [w32 (by omega) (by omega), grdT (by simp; omega), add_run _ _ _ _ _ _ (by simp) (by rw [List.length_drop, places_len]; omega)]
  simp only [Option.bind_some, BEq.rfl, cond_true]
  rw [grdT (by simp; omega)]
  unfold add
  by_cases hq : q = n
  · subst hq
    simp [F16, show ¬ (1 + (n : Int) = 0) by omega, show ¬ (1 + (n : Int) ≤ n) by omega]
  · have hq2 : (q == (n : Int)) = false := by simpa using hq
    simp [F16, hq2, hq, show ¬ (1 + q = 0) by omega, show 1 + q ≤ n by omega]
end Go.Proofs.Ytljbepjbecjpiaa.PureRollDrops

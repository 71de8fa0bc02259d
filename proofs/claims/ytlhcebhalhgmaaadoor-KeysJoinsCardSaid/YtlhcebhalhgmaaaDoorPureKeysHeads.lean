/- Plain law: KeysHeads. -/
import Derived.Test.YtlhcebhalhgmaaaDoorPureHead
import Derived.Test.YtlhcebhalhgmaaaDoorPureKeysRight
namespace Go.Proofs.YtlhcebhalhgmaaaDoor.PureKeysHeads
open Go.RowKit Go.Proofs.YtlhcebhalhgmaaaDoor.Mc Go.Proofs.YtlhcebhalhgmaaaDoor.N Go.Proofs.YtlhcebhalhgmaaaDoor.Plain Go.Proofs.YtlhcebhalhgmaaaDoor.PureRune Go.Proofs.YtlhcebhalhgmaaaDoor.PureKeys Go.Proofs.YtlhcebhalhgmaaaDoor.PureHead
set_option linter.unusedSimpArgs false
set_option linter.unusedVariables false

theorem extract_all (s : ByteArray) : s.extract 0 s.size = s := by simp
theorem head_loop (K : Nat) (s : ByteArray) (hs : s.size ≤ 1000000000) : ∀ {p : Nat} {L : List (Nat × Nat)}, Runes s p L → p ≤ s.size → ∀ (k : Nat) (n : Int), L.length < k → n < 9223372036854775808 →
    ∃ r, loopN (L15_6 K s) k (n, s, p) = some r ∧ sel (fun y7 => some y7.1) (fun y8 => some s) r = some (s.extract 0 (p + W L n.toNat))
  | _, _, .nil p h, hp, k, n, hk, hn => by
    obtain ⟨k, rfl⟩ : ∃ j, k = j + 1 := ⟨k - 1, by simp at hk; omega⟩
    refine ⟨.inr (s, p), loop_end ?_, ?_⟩
    · unfold L15_6
      simp only [decide_eq_false h, cond_false]
    · have : p = s.size := by omega
      subst this
      rw [W_nil, Nat.add_zero, extract_all]; rfl
  | _, _, .cons p h L t, hp, k, n, hk, hn => by
    simp only [List.length_cons] at hk
    obtain ⟨k, rfl⟩ : ∃ j, k = j + 1 := ⟨k - 1, by omega⟩
    by_cases h0 : n ≤ 0
    · refine ⟨.inl (s.extract 0 p, s, p + (Utf8.decode s p).2), loop_end ?_, ?_⟩
      · unfold L15_6
        simp only [decide_eq_true h, decide_eq_true h0, cond_true, Int.toNat_natCast]
        rw [grdT (by unfold bnds; exact decide_eq_true (by omega))]
      · rw [show n.toNat = 0 by omega, W_zero]; rfl
    · obtain ⟨r, e, hr⟩ := head_loop K s hs t (width_le s p h) k (n - 1) (by omega) (by omega)
      refine ⟨r, ?_, ?_⟩
      · rw [loop_step (b := (n - 1, s, p + (Utf8.decode s p).2)), e]
        unfold L15_6
        simp only [decide_eq_true h, decide_eq_false h0, cond_true, cond_false]
        rw [w64 (by omega) (by omega)]
      · rw [hr, show n.toNat = (n - 1).toNat + 1 by omega, W_cons, Nat.add_assoc]
theorem head_run (K : Nat) {s : ByteArray} (hs : s.size ≤ 1000000000) {L : List (Nat × Nat)} (hL : Runes s 0 L) (hk : L.length < K) (n : Int) (hn : n < 9223372036854775808) : F15 K s n = some (s.extract 0 (W L n.toNat)) := by
  obtain ⟨r, e, hr⟩ := head_loop K s hs hL (by omega) K n hk hn
  unfold F15
  rw [e, Option.bind_some]
  rw [Nat.zero_add] at hr
  exact hr

theorem W_succ (L : List (Nat × Nat)) (j : Nat) (h : j < L.length) : W L (j + 1) = W L j + L[j].2 := by
  unfold W
  rw [List.take_add_one, List.getElem?_eq_getElem h, Option.toList_some, List.map_append, List.sum_append]
  simp only [List.map_cons, List.map_nil, List.sum_cons, List.sum_nil, Nat.add_zero]
theorem W_min (L : List (Nat × Nat)) (j : Nat) : W L (min L.length j) = W L j := by
  unfold W
  by_cases h : j ≤ L.length
  · rw [Nat.min_eq_right h]
  · rw [Nat.min_eq_left (by omega), List.take_of_length_le (Nat.le_refl _), List.take_of_length_le (by omega)]
theorem refHead_run (K : Nat) {s : ByteArray} (hs : s.size ≤ 1000000000) {L : List (Nat × Nat)} (hL : Runes s 0 L) (hk : L.length < K) (hl : L.length ≤ s.size) (n : Int) : F16 K s n = some (s.extract 0 (W L n.toNat)) := by
  have hw : ∀ j, W L j ≤ s.size := fun j => by have := W_le hL (by omega) j; omega
  have loop : loopN (L16_10 K n (rs L, ns L)) K (0, 0) = some ((W L (min L.length n.toNat) : Nat) : Int) := by
    refine loop_go (fun i => ((W L i : Nat), (i : Int))) (min L.length n.toNat) (by rw [W_zero]; rfl) (by omega) (fun i hi => ?_) ?_
    · have hlt : i < L.length := by omega
      have hn : (ns L)[i]? = some ((L[i].2 : Nat) : Int) := by simp [ns, hlt]
      have e : (ns L).length = L.length := by simp [ns]
      unfold L16_10
      simp only [ixn, Int.toNat_natCast, hn, e, Option.bind_some]
      rw [condT (by omega), Option.bind_some, condT (by omega)]
      have h1 := hw (i + 1)
      rw [W_succ L i hlt] at h1
      rw [W_succ L i hlt, w64 (by omega) (by omega), w64 (by omega) (by omega)]
      simp
    · have e : (ns L).length = L.length := by simp [ns]
      unfold L16_10
      simp only [e]
      by_cases h : ((min L.length n.toNat : Nat) : Int) < (L.length : Int)
      · rw [condT h, Option.bind_some, condF (by omega)]
      · rw [condF h, Option.bind_some]; rfl
  unfold F16
  rw [ref_run K hs hL hk hl, Option.bind_some, loop, Option.bind_some, W_min]
  have h2 := hw n.toNat
  rw [grdT (by unfold bnds; exact decide_eq_true (by omega)), Int.toNat_natCast]

theorem law (a0 : ByteArray) (h0 : a0.size ≤ 1048576) (a1 : Int) (w1 : (Lit.int .i64 a1).wf = true) : ∃ k, F4 k a0 a1 = some true := by
  obtain ⟨L, hL, hl⟩ := runes_ex a0 a0.size 0 (by omega)
  have h1 := i64_wf w1
  refine ⟨2000000, ?_⟩
  have hq : W L a1.toNat ≤ a0.size := by have := W_le hL (by omega) a1.toNat; omega
  have ht := runes_take hL (by omega) a1.toNat (W L a1.toNat) (by omega) hq
  have hps := pre_size a0 (W L a1.toNat) hq
  have hlt : (L.take a1.toNat).length ≤ (a0.extract 0 (W L a1.toNat)).size := by
    obtain ⟨L', h3, h4⟩ := runes_ex (a0.extract 0 (W L a1.toNat)) (a0.extract 0 (W L a1.toNat)).size 0 (by omega)
    have uniq : ∀ {s : ByteArray} {p : Nat} {A B : List (Nat × Nat)}, Runes s p A → Runes s p B → A = B := by
      intro s p A B hA
      induction hA generalizing B with
      | nil p h => intro hB; cases hB with
        | nil => rfl
        | cons _ h' => exact absurd h' h
      | cons p h L t ih => intro hB; cases hB with
        | nil _ h' => exact absurd h h'
        | cons _ _ L' t' => rw [ih t']
    rw [uniq ht h3]; omega
  unfold F4
  rw [head_run _ (by omega) hL (by omega) _ (by omega), PureKeysRight.alive, refHead_run _ (by omega) hL (by omega) (by omega)]
  simp only [Option.bind_some, BEq.rfl, cond_true, hps, Int.toNat_natCast]
  rw [condT (by omega), grdT (by unfold bnds; exact decide_eq_true (by omega)), count_run _ (by omega) ht (by omega) hlt, count_run _ (by omega) hL (by omega) (by omega)]
  simp only [Option.bind_some, List.length_take]
  congr 1
  rw [beq_iff_eq]
  unfold mn mx
  split <;> split <;> omega
end Go.Proofs.YtlhcebhalhgmaaaDoor.PureKeysHeads

/- Plain law: KeysBytes. -/
import Derived.Test.YtlhcebhalhgmaaaDoorPureBytes
import Derived.Test.YtlhcebhalhgmaaaDoorPureKeysJoins
namespace Go.Proofs.YtlhcebhalhgmaaaDoor.PureKeysBytes
open Go.RowKit Go.Proofs.YtlhcebhalhgmaaaDoor.Mc Go.Proofs.YtlhcebhalhgmaaaDoor.N Go.Proofs.YtlhcebhalhgmaaaDoor.Plain Go.Proofs.YtlhcebhalhgmaaaDoor.PureRune Go.Proofs.YtlhcebhalhgmaaaDoor.PureKeys Go.Proofs.YtlhcebhalhgmaaaDoor.PureCmp Go.Proofs.YtlhcebhalhgmaaaDoor.PureHead Go.Proofs.YtlhcebhalhgmaaaDoor.PureKeysHeads Go.Proofs.YtlhcebhalhgmaaaDoor.PureBytes
open Go.Proofs.YtlhcebhalhgmaaaDoor.PureKeysRight (alive right_run right_eq decodeGo_tail)
open Go.Proofs.YtlhcebhalhgmaaaDoor.PureKeysJoins (okR_ne)
set_option linter.unusedSimpArgs false
set_option linter.unusedVariables false
/-- Right, of texts as long as they may be -/
theorem right_loop' (K : Nat) (s : ByteArray) : ∀ {p : Nat} {L : List (Nat × Nat)}, Runes s p L → ∀ (k m : Nat), 13 - m < k → m ≤ 12 →
    ∃ p', loopN (L12_8 K s) k ((m : Int), s, p) = some (if okL m L then .inr (((m + L.length : Nat) : Int), s, p') else .inl (s, p'))
  | _, _, .nil p h, k, m, hk, hm => by
    obtain ⟨k, rfl⟩ : ∃ j, k = j + 1 := ⟨k - 1, by omega⟩
    refine ⟨p, loop_end ?_⟩
    unfold L12_8
    simp only [decide_eq_false h, cond_false, okL, if_true]; rfl
  | _, _, .cons p h L t, k, m, hk, hm => by
    obtain ⟨k, rfl⟩ : ∃ j, k = j + 1 := ⟨k - 1, by omega⟩
    have hdg := decodeGo_tail s p h
    have step : L12_8 K s ((m : Int), s, p) = cond (decide (m + 1 ≤ 12) && okR (Utf8.decode s p)) (some (.inl (((m + 1 : Nat) : Int), s, p + (Utf8.decode s p).2))) (some (.inr (.inl (s, p + (Utf8.decode s p).2)))) := by
      unfold L12_8 F26
      simp only [decide_eq_true h, cond_true, Int.toNat_natCast, hdg]
      rw [w64 (by omega) (by omega)]
      generalize Utf8.decode s p = x
      obtain ⟨r, n⟩ := x
      simp only [okR]
      have A : (cond (decide (12 < (m : Int) + 1)) (some true) (cond (decide ((r : Int) < 33)) (some true) (cond (decide (127 ≤ (r : Int))) (some (decide ((r : Int) ≤ 160))) (some false))) : Option Bool) = some (!(decide (m + 1 ≤ 12) && (decide (33 ≤ r) && !(decide (127 ≤ r) && decide (r ≤ 160))))) := by
        by_cases h1 : m + 1 ≤ 12
        · rw [condF (by omega)]
          by_cases h2 : 33 ≤ r
          · rw [condF (by omega)]
            by_cases h3 : 127 ≤ r
            · rw [condT (by omega)]
              by_cases h4 : r ≤ 160
              · simp [h1, h2, h3, h4]; omega
              · simp [h1, h2, h3, h4]; omega
            · rw [condF (by omega)]; simp [h1, h2, h3]
          · rw [condT (by omega)]; simp [h2]
        · rw [condT (by omega)]; simp [h1]
      rw [A, Option.bind_some]
      cases hc : (decide (m + 1 ≤ 12) && (decide (33 ≤ r) && !(decide (127 ≤ r) && decide (r ≤ 160)))) with
      | false =>
        have : (decide (m + 1 ≤ 12) && (decide (33 ≤ r) && !(decide (127 ≤ r) && decide (r ≤ 160)) && !(r == 65533 && n == 1))) = false := by
          rw [← Bool.and_assoc, hc]; rfl
        rw [this]; rfl
      | true =>
        have : (decide (m + 1 ≤ 12) && (decide (33 ≤ r) && !(decide (127 ≤ r) && decide (r ≤ 160)) && !(r == 65533 && n == 1))) = !(r == 65533 && n == 1) := by
          rw [← Bool.and_assoc, hc]; rfl
        rw [this]
        simp only [Bool.not_true, cond_false]
        rw [grdT (by unfold bnds; exact decide_eq_true (by omega))]
        simp only [Option.bind_some]
        by_cases h5 : r = 65533
        · subst h5
          by_cases h6 : n = 1
          · subst h6; rfl
          · have g6 : ((n : Int) == 1) = false := by rw [beq_eq_false_iff_ne]; omega
            have g7 : (n == 1) = false := by simpa using h6
            rw [g6, g7]; rfl
        · have g5 : ((r : Int) == 65533) = false := by rw [beq_eq_false_iff_ne]; omega
          have g7 : (r == 65533) = false := by simpa using h5
          rw [g5, g7]; rfl
    by_cases hc : (decide (m + 1 ≤ 12) && okR (Utf8.decode s p)) = true
    · have hc' := hc
      simp only [Bool.and_eq_true, decide_eq_true_eq] at hc'
      obtain ⟨p', e⟩ := right_loop' K s t k (m + 1) (by omega) (by omega)
      refine ⟨p', ?_⟩
      rw [loop_step (b := (((m + 1 : Nat) : Int), s, p + (Utf8.decode s p).2)) (by rw [step, hc]; rfl), e, okL, hc, Bool.true_and]
      have : m + 1 + L.length = m + (Utf8.decode s p :: L).length := by simp only [List.length_cons]; omega
      rw [this]
    · refine ⟨p + (Utf8.decode s p).2, ?_⟩
      rw [Bool.not_eq_true] at hc
      rw [loop_end (r := .inl (s, p + (Utf8.decode s p).2)) (by rw [step, hc]; rfl)]
      rw [okL, hc]; rfl
theorem right_any (K : Nat) {s : ByteArray} {L : List (Nat × Nat)} (hL : Runes s 0 L) (hk : 20 ≤ K) : F12 K s = some (L.all okR && (decide (1 ≤ L.length) && decide (L.length ≤ 12))) := by
  obtain ⟨p', e⟩ := right_loop' K s hL K 0 (by omega) (by omega)
  rw [← right_eq]
  unfold F12
  rw [show ((0 : Int), s, 0) = (((0 : Nat) : Int), s, 0) from rfl, e]
  cases okL 0 L with
  | false => rfl
  | true =>
    simp only [if_true, Option.bind_some, sel, Bool.true_and]
    congr 1
    rw [decide_eq_decide]; omega
theorem toList_data (s : ByteArray) : s.toList = s.data.toList := ByteArray.toList_eq s
theorem cmp_take : ∀ (A : List Int) (j : Nat), cmp (A.take j) A ≤ 0
  | [], j => by simp [cmp]
  | x :: A, 0 => by simp [cmp]
  | x :: A, j + 1 => by
    simp only [List.take_succ_cons, cmp, if_true]
    exact cmp_take A j
theorem rs_take (L : List (Nat × Nat)) (j : Nat) : rs (L.take j) = (rs L).take j := by unfold rs; rw [List.map_take]
theorem law' (a0 : ByteArray) (h0 : a0.size ≤ maxLen) (a1 : ByteArray) (h1 : a1.size ≤ maxLen) (a2 : Int) (w2 : (Lit.int .i64 a2).wf = true) : ∃ k, F5 k a0 a1 a2 = some true := by
  obtain ⟨L, hL, hl⟩ := runes_ex a0 a0.size 0 (by omega)
  obtain ⟨M, hM, hm⟩ := runes_ex a1 a1.size 0 (by omega)
  have hw := i64_wf w2
  refine ⟨2000000, ?_⟩
  have e1 := right_any 2000000 hL (by omega)
  have e2 := right_any 2000000 hM (by omega)
  unfold F5
  rw [alive, e1, e2]
  simp only [Option.bind_some, Bool.not_true, cond_false]
  cases k1 : (L.all okR && (decide (1 ≤ L.length) && decide (L.length ≤ 12))) with
  | false => rfl
  | true =>
    cases k2 : (M.all okR && (decide (1 ≤ M.length) && decide (M.length ≤ 12))) with
    | false => rfl
    | true =>
      simp only [Bool.and_eq_true, decide_eq_true_eq] at k1 k2
      have s0 := width4 hL (by omega)
      have s1 := width4 hM (by omega)
      have n1 : ∀ x ∈ L, x ≠ (65533, 1) := fun x hx => okR_ne (List.all_eq_true.1 k1.1 x hx)
      have n2 : ∀ x ∈ M, x ≠ (65533, 1) := fun x hx => okR_ne (List.all_eq_true.1 k2.1 x hx)
      have b1 := bs_runes hL n1
      have b2 := bs_runes hM n2
      have c1 := cmp_run 2000000 (by omega) (by omega) hL hM (by omega) (by omega) (by omega) (by omega)
      have c2 := head_run 2000000 (by omega) hL (by omega) a2 hw.2
      simp only [Option.bind_some, Bool.not_true, cond_false]
      rw [c1, c2]
      simp only [Option.bind_some]
      have q1 : Op.bytesLess a0.toList a1.toList = decide (cmp (rs L) (rs M) < 0) := by
        rw [bless, ← order, ← b1, ← b2, toList_data, toList_data]
        unfold bs
        rw [List.drop_zero, List.drop_zero]
      have q2 : (a0.toList == a1.toList) = (cmp (rs L) (rs M) == 0) := by
        rw [Bool.eq_iff_iff, beq_iff_eq, beq_iff_eq]
        constructor
        · intro h
          have ea : a0 = a1 := by
            apply ByteArray.ext; apply Array.ext'
            rw [toList_data, toList_data] at h; exact h
          subst ea
          rw [uniq hL hM]; exact cmp_self _
        · intro h
          have e := cmp_eq _ _ h
          have e' : L.map (·.1) = M.map (·.1) := by
            have : (L.map (·.1)).map (fun n : Nat => (n : Int)) = (M.map (·.1)).map (fun n : Nat => (n : Int)) := by
              unfold rs at e; rw [List.map_map, List.map_map]; exact e
            exact (List.map_inj_right (fun a b h => Int.ofNat.inj h)).1 this
          have : bs a0 0 = bs a1 0 := by rw [b1, b2, e']
          unfold bs at this
          rw [List.drop_zero, List.drop_zero] at this
          rw [toList_data, toList_data]
          exact (List.map_inj_right (fun a b h => UInt8.toNat_inj.1 h)).1 this
      have q3 : ¬ (48 < (a0.size : Int)) := by have := width4 hL (by omega); omega
      rw [q1, q2, decide_eq_false q3]
      simp only [BEq.rfl, Bool.not_true, cond_false, Option.bind_some]
      -- the head
      have hq : W L a2.toNat ≤ a0.size := by have := W_le hL (by omega) a2.toNat; omega
      have ht := runes_take hL (by omega) a2.toNat (W L a2.toNat) (by omega) hq
      have hps := pre_size a0 (W L a2.toNat) hq
      obtain ⟨L', h3, h4⟩ := runes_ex (a0.extract 0 (W L a2.toNat)) (a0.extract 0 (W L a2.toNat)).size 0 (by omega)
      have eL := uniq h3 ht
      subst eL
      cases he : ((a0.extract 0 (W L a2.toNat)).toList == (⟨#[]⟩ : ByteArray).toList) with
      | true => rfl
      | false =>
        have r1 := right_run 2000000 (by omega) ht (by omega) (by omega)
        have hlen : 1 ≤ (L.take a2.toNat).length := by
          rcases Nat.eq_zero_or_pos (L.take a2.toNat).length with h | h
          · have hnil : L.take a2.toNat = [] := List.eq_nil_of_length_eq_zero h
            rw [hnil] at ht
            exfalso
            cases ht with
            | nil _ hh =>
              have : (a0.extract 0 (W L a2.toNat)).data.toList = [] := List.eq_nil_of_length_eq_zero (by rw [← Lib.size_eq]; omega)
              rw [toList_data, this, toList_data] at he
              cases he
          · exact h
        have ha : (L.take a2.toNat).all okR = true := List.all_eq_true.2 fun x hx => List.all_eq_true.1 k1.1 x (List.mem_of_mem_take hx)
        have hl12 : (L.take a2.toNat).length ≤ 12 := by rw [List.length_take]; omega
        rw [cond_false, r1, right_eq, ha]
        simp only [decide_eq_true hlen, decide_eq_true hl12, Bool.and_true, Option.bind_some, cond_true]
        have c3 := cmp_run 2000000 (by omega) (by omega) ht hL (by omega) (by omega) (by omega) (by omega)
        rw [c3]
        simp only [Option.bind_some]
        rw [rs_take, decide_eq_true (cmp_take _ _)]
theorem law (x1 : ByteArray) (x2 : ByteArray) (x3 : Int) (g : gdT [.str, .str, .int .i64] (x1, x2, x3)) : ∃ k, F5 k x1 x2 x3 = some true := law' x1 g.1 x2 g.2.1 x3 g.2.2
end Go.Proofs.YtlhcebhalhgmaaaDoor.PureKeysBytes

/- Two texts held against each other, rune by rune. -/
import Derived.Test.YtobfoiomjfdjjaaDoorPureKeys
namespace Go.Proofs.YtobfoiomjfdjjaaDoor.PureCmp
open Go.RowKit Go.Proofs.YtobfoiomjfdjjaaDoor.Mc Go.Proofs.YtobfoiomjfdjjaaDoor.N Go.Proofs.YtobfoiomjfdjjaaDoor.Plain Go.Proofs.YtobfoiomjfdjjaaDoor.PureRune Go.Proofs.YtobfoiomjfdjjaaDoor.PureKeys
set_option linter.unusedSimpArgs false
set_option linter.unusedVariables false

def com : List Int → List Int → Nat
  | x :: xs, y :: ys => if x = y then com xs ys + 1 else 0
  | _, _ => 0
def cmp : List Int → List Int → Int
  | [], [] => 0
  | [], _ :: _ => -1
  | _ :: _, [] => 1
  | x :: xs, y :: ys => if x = y then cmp xs ys else if x < y then -1 else 1
theorem com_le : ∀ (A B : List Int), com A B ≤ A.length ∧ com A B ≤ B.length
  | [], B => by simp [com]
  | _ :: _, [] => by simp [com]
  | x :: xs, y :: ys => by
    have := com_le xs ys
    unfold com
    split <;> simp only [List.length_cons] <;> omega
theorem com_comm : ∀ (A B : List Int), com A B = com B A
  | [], [] => rfl
  | [], _ :: _ => rfl
  | _ :: _, [] => rfl
  | x :: xs, y :: ys => by
    unfold com
    by_cases h : x = y
    · rw [if_pos h, if_pos h.symm, com_comm xs ys]
    · rw [if_neg h, if_neg (fun e => h e.symm)]
theorem cmp_swap : ∀ (A B : List Int), cmp B A = - cmp A B
  | [], [] => rfl
  | [], _ :: _ => rfl
  | _ :: _, [] => rfl
  | x :: xs, y :: ys => by
    unfold cmp
    by_cases h : x = y
    · rw [if_pos h, if_pos h.symm, cmp_swap xs ys]
    · rw [if_neg h, if_neg (fun e => h e.symm)]
      split <;> split <;> omega
theorem cmp_self : ∀ (A : List Int), cmp A A = 0
  | [] => rfl
  | x :: xs => by unfold cmp; rw [if_pos rfl, cmp_self xs]

theorem com_loop {f : Int → Option (Int ⊕ Int)} {A B : List Int} (hA : A.length ≤ 1000000000)
    (hf : ∀ i : Nat, f (i : Int) = match A[i]?, B[i]? with | some a, some b => (if a = b then some (.inl ((i + 1 : Nat) : Int)) else some (.inr (i : Int))) | _, _ => some (.inr (i : Int))) :
    ∀ (m i k : Nat), A.length - i = m → m < k → loopN f k (i : Int) = some ((i + com (A.drop i) (B.drop i) : Nat) : Int)
  | m, i, k, hm, hk => by
    obtain ⟨k, rfl⟩ : ∃ j, k = j + 1 := ⟨k - 1, by omega⟩
    by_cases h1 : i < A.length
    · by_cases h2 : i < B.length
      · have hs := hf i
        rw [List.getElem?_eq_getElem h1, List.getElem?_eq_getElem h2] at hs
        simp only at hs
        rw [List.drop_eq_getElem_cons h1, List.drop_eq_getElem_cons h2]
        unfold com
        by_cases h : A[i] = B[i]
        · rw [if_pos h] at hs
          rw [loop_step hs, com_loop hA hf (A.length - (i + 1)) (i + 1) k rfl (by omega), if_pos h]
          congr 2; omega
        · rw [if_neg h] at hs
          rw [loop_end hs, if_neg h, Nat.add_zero]
      · have hs := hf i
        rw [List.getElem?_eq_getElem h1, List.getElem?_eq_none (by omega)] at hs
        rw [loop_end hs, List.drop_eq_nil_of_le (show B.length ≤ i by omega)]
        cases A.drop i <;> simp [com]
    · have hs := hf i
      rw [List.getElem?_eq_none (show A.length ≤ i by omega)] at hs
      rw [loop_end hs, List.drop_eq_nil_of_le (show A.length ≤ i by omega)]
      simp [com]
termination_by m => m
decreasing_by omega

theorem cmp_at : ∀ (A B : List Int), cmp A B = (if com A B = A.length ∧ com A B = B.length then 0 else if com A B = A.length then -1 else if com A B = B.length then 1 else if A.getD (com A B) 0 < B.getD (com A B) 0 then -1 else 1)
  | [], [] => by simp [cmp, com]
  | [], _ :: _ => by simp [cmp, com]
  | _ :: _, [] => by simp [cmp, com]
  | x :: xs, y :: ys => by
    unfold cmp com
    by_cases h : x = y
    · rw [if_pos h, if_pos h, cmp_at xs ys]
      simp only [List.length_cons, Nat.add_right_cancel_iff, List.getD_cons_succ]
    · rw [if_neg h, if_neg h]
      simp

theorem cmp_loop {f : Int → Option (Int ⊕ (Int ⊕ Unit))} {A B : List Int} (hA : A.length ≤ 1000000000)
    (hf : ∀ i : Nat, f (i : Int) = match A[i]?, B[i]? with
      | some a, some b => (if a = b then some (.inl ((i + 1 : Nat) : Int)) else some (.inr (.inl (if a < b then -1 else 1))))
      | some _, none => some (.inr (.inl 1))
      | none, _ => some (.inr (.inr ()))) :
    ∀ (m i k : Nat), A.length - i = m → i ≤ A.length → i ≤ B.length → m < k → ∃ r, loopN f k (i : Int) = some r ∧ sel (fun y => some y) (fun _ => cond (decide ((A.length : Int) < (B.length : Int))) (some (-1)) (some 0)) r = some (cmp (A.drop i) (B.drop i))
  | m, i, k, hm, ha, hb, hk => by
    obtain ⟨k, rfl⟩ : ∃ j, k = j + 1 := ⟨k - 1, by omega⟩
    have hs := hf i
    by_cases h1 : i < A.length
    · rw [List.getElem?_eq_getElem h1] at hs
      rw [List.drop_eq_getElem_cons h1]
      by_cases h2 : i < B.length
      · rw [List.getElem?_eq_getElem h2] at hs
        rw [List.drop_eq_getElem_cons h2]
        simp only at hs
        unfold cmp
        by_cases h : A[i] = B[i]
        · rw [if_pos h] at hs
          obtain ⟨r, e, hr⟩ := cmp_loop hA hf (A.length - (i + 1)) (i + 1) k rfl (by omega) (by omega) (by omega)
          exact ⟨r, by rw [loop_step hs, e], by rw [if_pos h]; exact hr⟩
        · rw [if_neg h] at hs
          exact ⟨_, loop_end hs, by rw [if_neg h]; rfl⟩
      · rw [List.getElem?_eq_none (show B.length ≤ i by omega)] at hs
        refine ⟨_, loop_end hs, ?_⟩
        rw [List.drop_eq_nil_of_le (show B.length ≤ i by omega)]; rfl
    · rw [List.getElem?_eq_none (show A.length ≤ i by omega)] at hs
      refine ⟨_, loop_end hs, ?_⟩
      rw [List.drop_eq_nil_of_le (show A.length ≤ i by omega)]
      simp only [sel]
      by_cases h2 : i < B.length
      · rw [List.drop_eq_getElem_cons h2, condT (by omega)]; rfl
      · rw [List.drop_eq_nil_of_le (show B.length ≤ i by omega), condF (by omega)]; rfl
termination_by m => m
decreasing_by omega

/-- runes, as the code under test lists them -/
theorem list_loop (K : Nat) (s : ByteArray) (hs : s.size ≤ 1000000000) : ∀ {p : Nat} {L : List (Nat × Nat)}, Runes s p L → ∀ (k : Nat) (A : List Int), L.length < k → A.length + L.length ≤ 1000000000 → ∃ p', loopN (L56_8 K) k (s, p, A) = some (s, p', A ++ rs L)
  | _, _, .nil p h, k, A, hk, ha => by
    obtain ⟨k, rfl⟩ : ∃ j, k = j + 1 := ⟨k - 1, by simp at hk; omega⟩
    refine ⟨p, loop_end ?_⟩
    unfold L56_8
    simp only [decide_eq_false h, cond_false]
    simp [rs]
  | _, _, .cons p h L t, k, A, hk, ha => by
    simp only [List.length_cons] at hk ha
    obtain ⟨k, rfl⟩ : ∃ j, k = j + 1 := ⟨k - 1, by omega⟩
    obtain ⟨p', e⟩ := list_loop K s hs t k (A ++ [((Utf8.decode s p).1 : Int)]) (by omega) (by simp only [List.length_append, List.length_singleton]; omega)
    refine ⟨p', ?_⟩
    rw [loop_step (b := (s, p + (Utf8.decode s p).2, A ++ [((Utf8.decode s p).1 : Int)])), e]
    · simp [rs]
    · unfold L56_8
      simp only [decide_eq_true h, cond_true]
      rw [grdD (by simp only [List.length_singleton]; omega)]
theorem list_run (K : Nat) {s : ByteArray} (hs : s.size ≤ 1000000000) {L : List (Nat × Nat)} (hL : Runes s 0 L) (hk : L.length < K) (hl : L.length ≤ s.size) : F56 K s = some (rs L) := by
  obtain ⟨p', e⟩ := list_loop K s hs hL K [] hk (by simp; omega)
  unfold F56
  rw [e]; rfl
theorem cmpInt_run (K : Nat) (a b : Int) : F84 K a b = some (if a < b then -1 else if b < a then 1 else 0) := by
  unfold F84 F95
  simp only [bne_self_eq_false, Option.bind_some, cond_false]
  by_cases h : a < b
  · rw [condT h, if_pos h]
  · rw [condF h, if_neg h]
    by_cases h2 : b < a
    · rw [condT h2, if_pos h2]
    · rw [condF h2, if_neg h2]
theorem slicesCmp_run (K : Nat) (A B : List Int) (hA : A.length ≤ 1000000000) (hk : A.length < K) : F57_1 K A B = some (cmp A B) := by
  obtain ⟨r, e, hr⟩ := cmp_loop (f := L57_1_6 K A B) (A := A) (B := B) hA (fun i => by
    unfold L57_1_6
    by_cases h1 : i < A.length
    · rw [condT (by omega)]
      simp only [ixn, List.getElem?_eq_getElem h1, Option.bind_some]
      by_cases h2 : i < B.length
      · rw [condF (by omega)]
        simp only [ixn, List.getElem?_eq_getElem h2, Option.bind_some, cmpInt_run]
        by_cases h : A[i] = B[i]
        · rw [if_pos h, if_neg (by omega), if_neg (by omega)]
          simp only [bne_self_eq_false, cond_false]
          rw [w64 (by omega) (by omega)]; rfl
        · rw [if_neg h]
          by_cases h3 : A[i] < B[i]
          · rw [if_pos h3, if_pos h3]; rfl
          · rw [if_neg h3, if_pos (by omega), if_neg h3]; rfl
      · rw [condT (by omega), List.getElem?_eq_none (show B.length ≤ i by omega)]
    · rw [condF (by omega), List.getElem?_eq_none (show A.length ≤ i by omega)]) A.length 0 K (by omega) (by omega) (by omega) hk
  unfold F57_1
  rw [show (0 : Int) = ((0 : Nat) : Int) from rfl, e, Option.bind_some]
  exact hr
theorem cmp_run (K : Nat) {s t : ByteArray} (hs : s.size ≤ 1000000000) (ht : t.size ≤ 1000000000) {L M : List (Nat × Nat)} (hL : Runes s 0 L) (hM : Runes t 0 M) (hk : L.length < K) (hk2 : M.length < K) (hl : L.length ≤ s.size) (hm : M.length ≤ t.size) : F43 K s t = some (cmp (rs L) (rs M)) := by
  unfold F43
  rw [list_run K hs hL hk hl, Option.bind_some, list_run K ht hM hk2 hm, Option.bind_some, slicesCmp_run K _ _ (by simp [rs]; omega) (by simp [rs]; omega)]; rfl

end Go.Proofs.YtobfoiomjfdjjaaDoor.PureCmp

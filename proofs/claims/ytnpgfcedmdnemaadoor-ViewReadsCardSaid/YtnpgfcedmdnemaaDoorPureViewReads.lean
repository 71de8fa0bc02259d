/- ViewReads's plain law. -/
import Derived.Test.YtnpgfcedmdnemaaDoorPNote
namespace Go.Proofs.YtnpgfcedmdnemaaDoor.PureViewReads
open Go.RowKit Go.Proofs.YtnpgfcedmdnemaaDoor.Mc Go.Proofs.YtnpgfcedmdnemaaDoor.N Go.Proofs.YtnpgfcedmdnemaaDoor.Plain Go.Proofs.YtnpgfcedmdnemaaDoor.PView Go.Proofs.YtnpgfcedmdnemaaDoor.PNote
open Go.Proofs.YtnpgfcedmdnemaaDoor.PFd (beq_ba ba_ext)
set_option linter.unusedSimpArgs false
set_option linter.unusedVariables false
theorem inner (K : Nat) (x1 l : List Aw) (hl : ([] : List Aw) ++ cut x1 0 (mn (x1.length : Int) 30) = l) (i : Nat) (hi : i < l.length) (R0 R : List Rd) (f : Int) (hR : R.length ≤ 200000) (hK : 300000 ≤ K) (hu : (R.map (·.1)).Nodup) :
    loopN (L5_35 K x1 ((i : Int), R0)) K (false, 0, R) = some (match ki R l[i].1 with | none => (false, R) | some _ => (true, n1 f R l[i])) := by
  have hx : ix l (i : Int) = some l[i] := by rw [ixn, List.getElem?_eq_getElem hi]
  have hx2 : l[(i : Int).toNat]? = some l[i] := by rw [Int.toNat_natCast, List.getElem?_eq_getElem hi]
  have step : ∀ (S : List Rd) (b : Bool) (j : Nat) (hj : j < S.length), S.length ≤ 200000 → L5_35 K x1 ((i : Int), R0) (b, (j : Int), S) = some (.inl (if S[j].1 = l[i].1 then (true, ((j + 1 : Nat) : Int), if S[j].2.1 = l[i].2.2.2 then S else S.set j (S[j].1, 4294967295, S[j].2.2)) else (b, ((j + 1 : Nat) : Int), S))) := by
    intro S b j hj hS
    unfold L5_35
    rw [hl]
    dsimp only
    rw [condT (by omega), hx, hx2]
    simp only [ixn, Int.toNat_natCast, List.getElem?_eq_getElem hj, Option.bind_some, beq_ba]
    rw [w64 (by omega) (by omega)]
    by_cases he : S[j].1 = l[i].1
    · rw [decide_eq_true he, cond_true, if_pos he]
      by_cases hv : S[j].2.1 = l[i].2.2.2
      · rw [if_pos hv, bne_eq_false_iff_eq.2 hv]; rfl
      · rw [if_neg hv, bne_iff_ne.2 hv]; rfl
    · rw [decide_eq_false he, cond_false, if_neg he]; rfl
  have fin : ∀ (S : List Rd) (b : Bool), L5_35 K x1 ((i : Int), R0) (b, (S.length : Int), S) = some (.inr (b, S)) := by
    intro S b
    unfold L5_35
    dsimp only
    rw [condF (by omega)]
  cases hk : ki R l[i].1 with
  | none =>
    refine loop_go (fun j => (false, (j : Int), R)) R.length rfl (by omega) (fun j hj => ?_) (fin R false)
    rw [step R false j hj hR, if_neg (ki_none hk _ (List.getElem_mem hj))]
  | some q =>
    obtain ⟨hq, he⟩ := ki_some hk
    have hlen : (n1 f R l[i]).length = R.length := by
      have := congrArg List.length (n1_keys f R l[i])
      rw [hk] at this
      simpa using this
    have hkeys : (n1 f R l[i]).map (·.1) = R.map (·.1) := by rw [n1_keys, hk]; rfl
    have huq : ∀ j (hj : j < R.length), R[j].1 = l[i].1 → j = q := by
      intro j hj h
      have h2 : (R.map (·.1))[j]'(by simpa using hj) = (R.map (·.1))[q]'(by simpa using hq) := by simp [h, he]
      have hh := List.pairwise_iff_getElem.1 hu
      rcases Nat.lt_trichotomy j q with h3 | h3 | h3
      · exact absurd h2 (hh j q _ _ h3)
      · exact h3
      · exact absurd h2.symm (hh q j _ _ h3)
    refine loop_go (fun j => if j ≤ q then (false, (j : Int), R) else (true, (j : Int), n1 f R l[i])) R.length (by simp) (by omega) (fun j hj => ?_) ?_
    · by_cases h1 : j < q
      · rw [if_pos (by omega), if_pos (by omega), step R false j hj hR, if_neg (fun h => by have := huq j hj h; omega)]
      · by_cases h2 : j = q
        · subst h2
          rw [if_pos (by omega), if_neg (by omega), step R false j hj hR, if_pos he]
          unfold n1
          rw [hk]
          dsimp only
          rw [List.getElem?_eq_getElem hj]
        · rw [if_neg (by omega), if_neg (by omega), step _ true j (by omega) (by omega), if_neg (fun h => h2 ?_)]
          refine huq j hj ?_
          rw [← h]
          have e1 : R[j].1 = (R.map (·.1))[j]'(by simpa using hj) := by simp
          have e2 : ((n1 f R l[i])[j]'(by omega)).1 = ((n1 f R l[i]).map (·.1))[j]'(by simpa using (by omega)) := by simp
          rw [e1, e2]
          simp only [hkeys]
    · dsimp only
      rw [if_neg (by omega), ← hlen]
      exact fin _ true
theorem outer (K : Nat) (x1 l : List Aw) (hl : ([] : List Aw) ++ cut x1 0 (mn (x1.length : Int) 30) = l) (hl2 : l.length ≤ 30) (f : Int) (hK : 300000 ≤ K) : loopN (L5_20 K x1 f) K (0, []) = some (nt f [] l) := by
  refine loop_go (fun i => ((i : Int), nt f [] (l.take i))) l.length rfl (by omega) (fun i hi => ?_) ?_
  · have h1 := nt_len f (l.take i) []
    rw [List.length_take, List.length_nil] at h1
    have hu := nt_keys f (l.take i) [] (by simp)
    unfold L5_20
    rw [hl]
    dsimp only
    rw [condT (by omega), inner K x1 l hl i hi _ _ f (by omega) hK hu, Option.bind_some, take_snoc1 hi, nt_snoc, w64 (by omega) (by omega)]
    simp only [ixn, Int.toNat_natCast, List.getElem?_eq_getElem hi, Option.bind_some]
    cases hk : ki (nt f [] (l.take i)) l[i].1 with
    | none =>
      dsimp only
      rw [Bool.not_false, cond_true, grdD (by simp; omega), Option.bind_some]
      unfold n1
      rw [hk]; rfl
    | some q => rfl
  · unfold L5_20
    rw [hl]
    dsimp only
    rw [condF (by omega), List.take_length]
theorem same_loop {f : Int → Option (Int ⊕ (Unit ⊕ Unit))} (K n : Nat) (h : ∀ i, i < n → f (i : Int) = some (.inl ((i + 1 : Nat) : Int))) (he : f (n : Int) = some (.inr (.inr ()))) (hK : n < K) : loopN f K 0 = some (.inr ()) :=
  loop_go (fun i => (i : Int)) n rfl hK h he
theorem same1 (K : Nat) (R : List Rd) (hR : R.length ≤ 1000) (hK : 300000 ≤ K) : F23_1 K R R = some true := by
  unfold F23_1
  rw [bne_self_eq_false, cond_false, same_loop K R.length ?_ ?_  (by omega)]
  · rfl
  · intro i hi
    unfold L23_1_14
    rw [condT (by omega)]
    simp only [ixn, List.getElem?_eq_getElem hi, Option.bind_some, beq_self_eq_true, Bool.and_self, Bool.not_true, cond_false]
    rw [w64 (by omega) (by omega)]; rfl
  · unfold L23_1_14
    rw [condF (by omega)]
theorem same2 (K : Nat) (R : List Rd) (hR : R.length ≤ 1000) (hK : 300000 ≤ K) : F23_2 K R R = some true := by
  unfold F23_2
  rw [bne_self_eq_false, cond_false, same_loop K R.length ?_ ?_  (by omega)]
  · rfl
  · intro i hi
    unfold L23_2_14
    rw [condT (by omega)]
    simp only [ixn, Int.toNat_natCast, List.getElem?_eq_getElem hi, Option.bind_some, beq_self_eq_true, Bool.and_self, Bool.not_true, cond_false]
    rw [w64 (by omega) (by omega)]; rfl
  · unfold L23_2_14
    rw [condF (by omega)]
/-- a loop that turns each entry over -/
theorem turn_loop {α : Type} {f : Int × List α → Option ((Int × List α) ⊕ List α)} (K n : Nat) (R : List α) (hR : R.length = n) (h : ∀ (i : Nat) (S : List α), i < n → S.length = n → ∃ T : List α, T.length = n ∧ f ((i : Int), S) = some (.inl (((i + 1 : Nat) : Int), T))) (he : ∀ S : List α, S.length = n → f ((n : Int), S) = some (.inr S)) (hK : n < K) : ∃ S, loopN f K (0, R) = some S := by
  have := loop_inv (f := f) (a := (0, R)) (k := K) (fun i s => s.1 = (i : Int) ∧ s.2.length = n) (fun _ => True) n ⟨rfl, hR⟩ hK (fun i a hi ha => ?_) (fun a ha => ?_)
  · obtain ⟨r, h1, _⟩ := this
    exact ⟨r, h1⟩
  · obtain ⟨T, h1, h2⟩ := h i a.2 hi ha.2
    refine ⟨(((i + 1 : Nat) : Int), T), ?_, rfl, h1⟩
    rw [← h2, ← ha.1]
  · refine ⟨a.2, ?_, trivial⟩
    rw [← he a.2 ha.2, ← ha.1]
theorem law (x1 : List Aw) (x2 : Int) (g : gdT [.sl (.str (.bool (.str (.int .u32 .nil)))), .int .u32] (x1, x2)) : ∃ k, F5 k x1 x2 = some true := by
  refine ⟨2000000, ?_⟩
  have h2 := u32_wf (x := x2) g.2
  unfold F5 F9
  rw [Option.bind_some, alive _ (Nat.le_refl _), Option.bind_some]
  simp only [Bool.not_true, cond_false, Option.bind_some]
  have hb : bnds (x1.length : Int) 0 (mn (x1.length : Int) 30) = true := by
    unfold bnds mn
    simp; split <;> omega
  have hl2 : (([] : List Aw) ++ cut x1 0 (mn (x1.length : Int) 30)).length ≤ 30 := by
    unfold cut mn
    simp; split <;> omega
  rw [grdT hb, grdD (by rw [List.nil_append, List.length_nil] at *; omega)]
  generalize hl : ([] : List Aw) ++ cut x1 0 (mn (x1.length : Int) 30) = l at hl2 ⊢
  have h3 := nt_len x2 l []
  rw [List.length_nil] at h3
  rw [outer _ x1 l hl hl2 x2 (by omega), Option.bind_some, note2_run _ (by omega) l x2 [] _ (by omega) (by simp), if_neg (by omega), Option.bind_some]
  dsimp only
  rw [bne_self_eq_false, cond_false, note2_run _ (by omega) l _ _ _ (by omega) (by omega), nt_twice, if_neg (by omega), Option.bind_some, Option.bind_some]
  dsimp only
  rw [bne_self_eq_false, cond_false, reads_run _ _ _ (by omega), Option.bind_some, same2 _ _ (by omega) (by omega), Option.bind_some]
  obtain ⟨S, hS⟩ := turn_loop (f := L5_78 2000000) 2000000 (nt x2 [] l).length (nt x2 [] l) rfl (fun i S hi hS => by
    refine ⟨S.set i (S[i].1, 99, S[i].2.2), by rw [List.length_set, hS], ?_⟩
    unfold L5_78
    dsimp only
    rw [condT (by omega)]
    simp only [ixn, Int.toNat_natCast, List.getElem?_eq_getElem (hS ▸ hi), Option.bind_some]
    rw [w64 (by omega) (by omega)]; rfl) (fun S hS => by
    unfold L5_78
    dsimp only
    rw [condF (by omega)]) (by omega)
  obtain ⟨T, hT⟩ := turn_loop (f := L5_93 2000000) 2000000 l.length l rfl (fun i S hi hS => by
    refine ⟨S.set i ((⟨#[116, 117, 114, 110, 101, 100]⟩ : ByteArray), S[i].2.1, S[i].2.2.1, S[i].2.2.2), by rw [List.length_set, hS], ?_⟩
    unfold L5_93
    dsimp only
    rw [condT (by omega)]
    simp only [ixn, Int.toNat_natCast, List.getElem?_eq_getElem (hS ▸ hi), Option.bind_some]
    rw [w64 (by omega) (by omega)]; rfl) (fun S hS => by
    unfold L5_93
    dsimp only
    rw [condF (by omega)]) (by omega)
  rw [hS, Option.bind_some, hT, Option.bind_some, cond_true, Option.bind_some, same1 _ _ (by omega) (by omega)]; rfl
end Go.Proofs.YtnpgfcedmdnemaaDoor.PureViewReads

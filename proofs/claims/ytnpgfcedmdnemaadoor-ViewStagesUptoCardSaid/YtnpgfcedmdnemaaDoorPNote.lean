/- What a view's Note and Reads compute. -/
import Derived.Test.YtnpgfcedmdnemaaDoorPView
namespace Go.Proofs.YtnpgfcedmdnemaaDoor.PNote
open Go.RowKit Go.Proofs.YtnpgfcedmdnemaaDoor.Mc Go.Proofs.YtnpgfcedmdnemaaDoor.N Go.Proofs.YtnpgfcedmdnemaaDoor.Plain Go.Proofs.YtnpgfcedmdnemaaDoor.PureKeys Go.Proofs.YtnpgfcedmdnemaaDoor.PView
open Go.Proofs.YtnpgfcedmdnemaaDoor.PFd (beq_ba ba_ext)
set_option linter.unusedSimpArgs false
set_option linter.unusedVariables false
theorem take_snoc1 {α : Type} {l : List α} {j : Nat} (h : j < l.length) : l.take (j + 1) = l.take j ++ [l[j]] := by
  rw [List.take_add_one, List.getElem?_eq_getElem h]; rfl
/-- where a key stands -/
def ki (R : List Rd) (k : ByteArray) : Option Nat := R.findIdx? fun r => r.1.toList == k.toList
theorem ki_map (R : List Rd) (k : ByteArray) : ki R k = (R.map (·.1)).findIdx? fun x => x.toList == k.toList := by
  unfold ki; rw [List.findIdx?_map]; rfl
theorem ki_keys {R S : List Rd} (h : R.map (·.1) = S.map (·.1)) (k : ByteArray) : ki R k = ki S k := by rw [ki_map, ki_map, h]
theorem ki_some {R : List Rd} {k : ByteArray} {i : Nat} (h : ki R k = some i) : ∃ hi : i < R.length, R[i].1 = k := by
  obtain ⟨hi, hp⟩ := idx_lt h
  exact ⟨hi, ba_ext (beq_iff_eq.1 hp)⟩
theorem ki_none {R : List Rd} {k : ByteArray} (h : ki R k = none) : ∀ r ∈ R, r.1 ≠ k := by
  unfold ki at h
  rw [List.findIdx?_eq_none_iff] at h
  intro r hr e
  have := h r hr
  rw [e] at this
  simp at this
theorem ki_app {R : List Rd} {k : ByteArray} {i : Nat} (h : ki R k = some i) (x : Rd) : ki (R ++ [x]) k = some i := by
  unfold ki at h ⊢
  rw [List.findIdx?_append, h]; rfl
theorem ki_new {R : List Rd} {k : ByteArray} (h : ki R k = none) (v : Int × Int) : ki (R ++ [(k, v)]) k = some R.length := by
  unfold ki at h ⊢
  rw [List.findIdx?_append, h]
  simp [List.findIdx?_cons]
/-- one answer is noted -/
def n1 (f : Int) (R : List Rd) (a : Aw) : List Rd :=
  match ki R a.1 with
  | none => R ++ [(a.1, a.2.2.2, f)]
  | some i => match R[i]? with
    | some r => if r.2.1 = a.2.2.2 then R else R.set i (r.1, 4294967295, r.2.2)
    | none => R
def nt (f : Int) (R : List Rd) (l : List Aw) : List Rd := l.foldl (n1 f) R
theorem nt_snoc (f : Int) (R : List Rd) (l : List Aw) (a : Aw) : nt f R (l ++ [a]) = n1 f (nt f R l) a := by unfold nt; rw [List.foldl_append]; rfl
theorem n1_len (f : Int) (R : List Rd) (a : Aw) : (n1 f R a).length ≤ R.length + 1 := by
  unfold n1
  cases ki R a.1 with
  | none => simp
  | some i =>
    dsimp only
    cases R[i]? with
    | none => simp
    | some r => dsimp only; split <;> simp
theorem nt_len (f : Int) : ∀ (l : List Aw) (R : List Rd), (nt f R l).length ≤ R.length + l.length
  | [], R => by simp [nt]
  | a :: l, R => by
    have h1 := nt_len f l (n1 f R a)
    have h2 := n1_len f R a
    show (nt f (n1 f R a) l).length ≤ _
    rw [List.length_cons]; omega
theorem n1_keys (f : Int) (R : List Rd) (a : Aw) : (n1 f R a).map (·.1) = if (ki R a.1).isSome then R.map (·.1) else R.map (·.1) ++ [a.1] := by
  unfold n1
  cases hk : ki R a.1 with
  | none => simp
  | some i =>
    obtain ⟨hi, he⟩ := ki_some hk
    dsimp only
    rw [List.getElem?_eq_getElem hi]
    dsimp only
    split
    · rfl
    · rw [List.map_set]
      show _ = R.map (·.1)
      apply List.ext_getElem?
      intro j
      rw [List.getElem?_set]
      by_cases hj : i = j
      · subst hj; simp [hi]
      · simp [hj]
theorem note_run1 {f : (Int × List Rd) → Option ((Int × List Rd) ⊕ List Rd)} (K : Nat) (l : List Aw) (fg : Int) (R : List Rd) (hl : l.length ≤ 100000) (hR : R.length ≤ 100000) (hK : 300000 ≤ K)
    (hf : ∀ (i : Nat) (h : i < l.length) (S : List Rd), S.length ≤ 200000 → f ((i : Int), S) = some (.inl (((i + 1 : Nat) : Int), n1 fg S l[i]))) (he : ∀ S, f ((l.length : Int), S) = some (.inr S)) : loopN f K (0, R) = some (nt fg R l) := by
  refine loop_go (fun i => ((i : Int), nt fg R (l.take i))) l.length rfl (by omega) (fun i hi => ?_) ?_
  · have := nt_len fg (l.take i) R
    rw [hf i hi _ (by rw [List.length_take] at this; omega), take_snoc1 hi, nt_snoc]
  · rw [he, List.take_length]
theorem clone_run (K : Nat) (R : List Rd) (hR : R.length ≤ 1000000) : F39 K R = some R := by
  unfold F39
  rw [grdD (by simp; omega), List.nil_append, nilT_of]
  intro h
  rw [List.isEmpty_iff.1 h]
theorem body (S : List Rd) (a : Aw) (fg : Int) (i : Nat) (hi : i ≤ 200000) (hS : S.length ≤ 200000) :
    ((cond (decide (ixOf (ki S a.1) < 0)) (grd (decide ((S.length + [(a.1, a.2.2.2, fg)].length) * 24 ≤ 140737488355328)) <| some (S ++ [(a.1, a.2.2.2, fg)])) ((ix S (ixOf (ki S a.1))).bind fun a50 => (S[(ixOf (ki S a.1)).toNat]?).bind fun a51 =>
      cond (a51.2.1 != a.2.2.2) ((ix S (ixOf (ki S a.1))).bind fun a52 => ((S[(ixOf (ki S a.1)).toNat]?).bind fun a53 => some (a53.1, 4294967295, a53.2.2)).bind fun a54 => some (S.set (ixOf (ki S a.1)).toNat a54)) (some S)) : Option (List Rd))) = some (n1 fg S a) := by
  unfold n1
  cases hk : ki S a.1 with
  | none =>
    rw [show ixOf none = (-1 : Int) from rfl, condT (by omega), grdD (by simp; omega)]
  | some j =>
    obtain ⟨hj, _⟩ := ki_some hk
    rw [show ixOf (some j) = (j : Int) from rfl, condF (by omega)]
    simp only [ixn, Int.toNat_natCast, List.getElem?_eq_getElem hj, Option.bind_some]
    by_cases he : S[j].2.1 = a.2.2.2
    · rw [if_pos he, bne_eq_false_iff_eq.2 he]; rfl
    · rw [if_neg he, bne_iff_ne.2 he]; rfl
def Settled (R : List Rd) (a : Aw) : Prop := ∃ i r, ki R a.1 = some i ∧ R[i]? = some r ∧ (r.2.1 = a.2.2.2 ∨ r.2.1 = 4294967295)
theorem settled_n1 {f : Int} {R : List Rd} {a : Aw} (h : Settled R a) : n1 f R a = R := by
  obtain ⟨i, r, h1, h2, h3⟩ := h
  unfold n1
  rw [h1]
  dsimp only
  rw [h2]
  dsimp only
  split
  · rfl
  · rename_i hne
    have h4 : r.2.1 = 4294967295 := h3.resolve_left hne
    apply List.ext_getElem?
    intro j
    rw [List.getElem?_set]
    have hi := (List.getElem?_eq_some_iff.1 h2).1
    by_cases hj : i = j
    · subst hj
      rw [if_pos rfl, if_pos hi, h2, ← h4]
    · rw [if_neg hj]
theorem settled_here (f : Int) (R : List Rd) (a : Aw) : Settled (n1 f R a) a := by
  have hkeys := n1_keys f R a
  unfold n1 at hkeys ⊢
  cases hk : ki R a.1 with
  | none =>
    exact ⟨R.length, (a.1, a.2.2.2, f), ki_new hk _, by simp, .inl rfl⟩
  | some i =>
    obtain ⟨hi, he⟩ := ki_some hk
    rw [hk] at hkeys
    dsimp only at hkeys ⊢
    rw [List.getElem?_eq_getElem hi] at hkeys ⊢
    dsimp only at hkeys ⊢
    by_cases h : R[i].2.1 = a.2.2.2
    · rw [if_pos h]
      exact ⟨i, R[i], hk, List.getElem?_eq_getElem hi, .inl h⟩
    · rw [if_neg h] at hkeys ⊢
      exact ⟨i, _, by rw [ki_keys (by simpa using hkeys) a.1]; exact hk, by rw [List.getElem?_set_self hi], .inr rfl⟩
theorem settled_keep (f : Int) (R : List Rd) (a b : Aw) (h : Settled R b) : Settled (n1 f R a) b := by
  obtain ⟨i, r, h1, h2, h3⟩ := h
  have hi := (List.getElem?_eq_some_iff.1 h2).1
  have hkeys := n1_keys f R a
  unfold n1 at hkeys ⊢
  cases hk : ki R a.1 with
  | none => exact ⟨i, r, ki_app h1 _, by rw [List.getElem?_append_left hi]; exact h2, h3⟩
  | some j =>
    obtain ⟨hj, _⟩ := ki_some hk
    rw [hk] at hkeys
    dsimp only at hkeys ⊢
    rw [List.getElem?_eq_getElem hj] at hkeys ⊢
    dsimp only at hkeys ⊢
    by_cases h : R[j].2.1 = a.2.2.2
    · rw [if_pos h]
      exact ⟨i, r, h1, h2, h3⟩
    · rw [if_neg h] at hkeys ⊢
      have hki : ki (R.set j (R[j].1, 4294967295, R[j].2.2)) b.1 = some i := by rw [ki_keys (by simpa using hkeys) b.1]; exact h1
      by_cases hij : j = i
      · subst hij
        exact ⟨j, _, hki, List.getElem?_set_self hj, .inr rfl⟩
      · exact ⟨i, r, hki, by rw [List.getElem?_set_ne hij]; exact h2, h3⟩
theorem settled_nt (f : Int) (b : Aw) : ∀ (l : List Aw) (R : List Rd), Settled R b → Settled (nt f R l) b
  | [], _, h => h
  | a :: l, R, h => settled_nt f b l (n1 f R a) (settled_keep f R a b h)
theorem settled_all (f : Int) : ∀ (l : List Aw) (R : List Rd), ∀ b ∈ l, Settled (nt f R l) b
  | [], _, _, h => by simp at h
  | a :: l, R, b, h => by
    show Settled (nt f (n1 f R a) l) b
    rcases List.mem_cons.1 h with rfl | h
    · exact settled_nt f b l _ (settled_here f R b)
    · exact settled_all f l (n1 f R a) b h
theorem nt_same (f : Int) : ∀ (l : List Aw) (R : List Rd), (∀ b ∈ l, Settled R b) → nt f R l = R
  | [], _, _ => rfl
  | a :: l, R, h => by
    show nt f (n1 f R a) l = R
    rw [settled_n1 (h a (by simp))]
    exact nt_same f l R fun b hb => h b (by simp [hb])
theorem nt_twice (f f' : Int) (R : List Rd) (l : List Aw) : nt f' (nt f R l) l = nt f R l := nt_same f' l _ (settled_all f l R)
theorem nt_keys (f : Int) : ∀ (l : List Aw) (R : List Rd), (R.map (·.1)).Nodup → ((nt f R l).map (·.1)).Nodup
  | [], _, h => h
  | a :: l, R, h => by
    refine nt_keys f l (n1 f R a) ?_
    rw [n1_keys]
    cases hk : ki R a.1 with
    | some i => exact h
    | none =>
      show (R.map (·.1) ++ [a.1]).Nodup
      rw [List.nodup_append]
      refine ⟨h, by simp, fun x hx y hy => ?_⟩
      rw [List.mem_singleton] at hy
      subst hy
      obtain ⟨r, hr, rfl⟩ := List.mem_map.1 hx
      exact ki_none hk r hr
end Go.Proofs.YtnpgfcedmdnemaaDoor.PNote

/- What the functions that judge batches compute. -/
import Derived.Test.YtlnadpijicfceaaDoorPSorted
import Derived.Test.YtlnadpijicfceaaDoorPKeyRight
namespace Go.Proofs.YtlnadpijicfceaaDoor.PBatch1
open Go.RowKit Go.Proofs.YtlnadpijicfceaaDoor.Mc Go.Proofs.YtlnadpijicfceaaDoor.N Go.Proofs.YtlnadpijicfceaaDoor.Plain Go.Proofs.YtlnadpijicfceaaDoor.PureRune Go.Proofs.YtlnadpijicfceaaDoor.PureKeys Go.Proofs.YtlnadpijicfceaaDoor.PureCmp Go.Proofs.YtlnadpijicfceaaDoor.PureBytes Go.Proofs.YtlnadpijicfceaaDoor.PSort Go.Proofs.YtlnadpijicfceaaDoor.PSorted
open Go.Proofs.YtlnadpijicfceaaDoor.PKeyRight
open Go.Proofs.YtlnadpijicfceaaDoor.PureKeysRight
set_option linter.unusedSimpArgs false
set_option linter.unusedVariables false
abbrev Wr : Type := ByteArray × Bool × ByteArray
/-- is it a key? -/
noncomputable def kr (s : ByteArray) : Bool :=
  let L := Classical.choose (runes_ex s s.size 0 (by omega))
  L.all okR && (decide (1 ≤ L.length) && decide (L.length ≤ 12))
theorem kr_of {s : ByteArray} {L : List (Nat × Nat)} (h : Runes s 0 L) : kr s = (L.all okR && (decide (1 ≤ L.length) && decide (L.length ≤ 12))) := by
  have e := uniq (Classical.choose_spec (runes_ex s s.size 0 (by omega))).1 h
  unfold kr
  simp only [e]
theorem kr_ex (s : ByteArray) : ∃ L, Runes s 0 L ∧ L.length ≤ s.size ∧ kr s = (L.all okR && (decide (1 ≤ L.length) && decide (L.length ≤ 12))) := by
  obtain ⟨L, h1, h2⟩ := runes_ex s s.size 0 (by omega)
  exact ⟨L, h1, by omega, kr_of h1⟩
theorem kr_run (K : Nat) (s : ByteArray) (hk : 20 ≤ K) : F71 K s = some (kr s) := by
  obtain ⟨L, h1, _, e⟩ := kr_ex s
  rw [right_any K h1 hk, e]
theorem kref_run (K : Nat) {s : ByteArray} (hs : s.size ≤ 1048576) (hk : 2000000 ≤ K) : F68 K s = some (kr s) := by
  obtain ⟨L, h1, h2, e⟩ := kr_ex s
  rw [keyRight_run K (by omega) h1 (by omega) h2, e]
theorem kr_size {s : ByteArray} (h : kr s = true) : s.size ≤ 48 := by
  obtain ⟨L, h1, _, e⟩ := kr_ex s
  rw [e, Bool.and_eq_true, Bool.and_eq_true, decide_eq_true_eq, decide_eq_true_eq] at h
  have := width4 h1 (by omega)
  omega
theorem behind_run (K : Nat) {a b : ByteArray} (ha : a.size ≤ 1000000) (hb : b.size ≤ 1000000) (hK : 2000000 ≤ K) : F72 K a b = some (lt a b) := by
  unfold F72 lt
  rw [keysCmp K ha hb hK, Option.bind_some]
  by_cases h : cmp (rl a) (rl b) < 0
  · rw [decide_eq_true h]; rfl
  · rw [decide_eq_false h]
    cases cmp (rl a) (rl b) == 0 <;> rfl
/-! the first that is wrong -/
def firstBad (c : Nat → Int) : Nat → Nat → Int
  | 0, _ => 0
  | m + 1, i => if c i = 0 then firstBad c m (i + 1) else c i
theorem scan_run {f : Int → Option (Int ⊕ (Int ⊕ Unit))} (c : Nat → Int) (n : Nat) (hs : ∀ i, i < n → (∀ j, j < i → c j = 0) → f (i : Int) = if c i = 0 then some (.inl ((i + 1 : Nat) : Int)) else some (.inr (.inl (c i)))) (he : f (n : Int) = some (.inr (.inr ()))) :
    ∀ (m i k : Nat), i + m = n → m < k → (∀ j, j < i → c j = 0) → ∃ r, loopN f k (i : Int) = some r ∧ sel (fun y => some y) (fun _ => some 0) r = some (firstBad c m i)
  | 0, i, k, hi, hk, _ => by
    obtain ⟨k, rfl⟩ : ∃ j, k = j + 1 := ⟨k - 1, by omega⟩
    obtain rfl : i = n := by omega
    exact ⟨_, loop_end he, rfl⟩
  | m + 1, i, k, hi, hk, hz => by
    obtain ⟨k, rfl⟩ : ∃ j, k = j + 1 := ⟨k - 1, by omega⟩
    have h := hs i (by omega) hz
    by_cases hc : c i = 0
    · rw [if_pos hc] at h
      obtain ⟨r, h1, h2⟩ := scan_run c n hs he m (i + 1) k (by omega) (by omega) (fun j hj => by
        rcases Nat.lt_succ_iff_lt_or_eq.1 hj with h | rfl
        · exact hz j h
        · exact hc)
      exact ⟨r, by rw [loop_step h]; exact h1, by rw [h2, show firstBad c (m + 1) i = firstBad c m (i + 1) from if_pos hc]⟩
    · rw [if_neg hc] at h
      exact ⟨_, loop_end h, by unfold firstBad; rw [if_neg hc]; rfl⟩
theorem firstBad_all (c : Nat → Int) : ∀ (m i : Nat), firstBad c m i = 0 → ∀ j, i ≤ j → j < i + m → c j = 0
  | 0, i, _, j, h1, h2 => by omega
  | m + 1, i, h, j, h1, h2 => by
    unfold firstBad at h
    by_cases hc : c i = 0
    · rw [if_pos hc] at h
      by_cases e : j = i
      · rw [e]; exact hc
      · exact firstBad_all c m (i + 1) h j (by omega) (by omega)
    · rw [if_neg hc] at h; exact absurd h hc
theorem firstBad_zero (c : Nat → Int) : ∀ (m i : Nat), (∀ j, i ≤ j → j < i + m → c j = 0) → firstBad c m i = 0
  | 0, i, _ => rfl
  | m + 1, i, h => by
    unfold firstBad
    rw [if_pos (h i (by omega) (by omega))]
    exact firstBad_zero c m (i + 1) fun j h1 h2 => h j (by omega) (by omega)
/-! what is wrong with a write -/
def wcd (k big del ne ah : Bool) : Int := cond k (cond big 11 (cond (cond del ne false || !ah) 2 0)) 10
noncomputable def wcode (l : List Wr) (i : Nat) : Int :=
  match l[i]? with
  | none => 0
  | some w => wcd (kr w.1) (decide (48 < w.2.2.size)) w.2.1 (!(w.2.2.toList == (⟨#[]⟩ : ByteArray).toList)) (!decide (0 < i) || (l[i - 1]?.map fun v => lt v.1 w.1).getD true)
noncomputable def bright (l : List Wr) : Int := if l.length < 1 ∨ 8 < l.length then 12 else firstBad (wcode l) l.length 0
theorem wcode_at {l : List Wr} {i : Nat} {w : Wr} (h : l[i]? = some w) : wcode l i = wcd (kr w.1) (decide (48 < w.2.2.size)) w.2.1 (!(w.2.2.toList == (⟨#[]⟩ : ByteArray).toList)) (!decide (0 < i) || (l[i - 1]?.map fun v => lt v.1 w.1).getD true) := by
  unfold wcode; rw [h]
theorem wcode_kr {l : List Wr} {i : Nat} {w : Wr} (h : l[i]? = some w) (hc : wcode l i = 0) : kr w.1 = true := by
  rw [wcode_at h] at hc
  cases hk : kr w.1 with
  | true => rfl
  | false => rw [hk] at hc; exact absurd (show (10 : Int) = 0 from hc) (by decide)
theorem right_step (K : Nat) (l : List Wr) (hn : l.length ≤ 1000) (hK : 2000000 ≤ K) (i : Nat) (hi : i < l.length) (hz : ∀ j, j < i → wcode l j = 0) :
    L55_14 K l (i : Int) = if wcode l i = 0 then some (.inl ((i + 1 : Nat) : Int)) else some (.inr (.inl (wcode l i))) := by
  have hli : l[i]? = some l[i] := List.getElem?_eq_getElem hi
  unfold L55_14
  rw [condT (by omega), ixn, hli, Option.bind_some, kr_run K _ (by omega), Option.bind_some]
  rw [wcode_at hli]
  cases hk : kr l[i].1 with
  | false => rfl
  | true =>
    have hs := kr_size hk
    rw [Bool.not_true, cond_false]
    by_cases hv : 48 < l[i].2.2.size
    · rw [condT (by omega), decide_eq_true hv]; rfl
    rw [condF (by omega), decide_eq_false hv, w64 (x := (i : Int) + 1) (by omega) (by omega)]
    by_cases h0 : 0 < i
    · have hp : l[i - 1]? = some (l[i - 1]'(by omega)) := List.getElem?_eq_getElem (by omega)
      have hpk := wcode_kr hp (hz (i - 1) (by omega))
      have hps := kr_size hpk
      have hb := behind_run K (a := (l[i - 1]'(by omega)).1) (b := l[i].1) (by omega) (by omega) hK
      rw [w64 (x := (i : Int) - 1) (by omega) (by omega), show (i : Int) - 1 = ((i - 1 : Nat) : Int) by omega, ixn, hp]
      simp only [condT (show (0 : Int) < (i : Int) by omega), Option.bind_some, hb, decide_eq_true h0, Bool.not_true, Bool.false_or, Option.map_some, Option.getD_some]
      generalize l[i].2.1 = d
      generalize (l[i].2.2.toList == (⟨#[]⟩ : ByteArray).toList) = e
      generalize lt (l[i - 1]'(by omega)).1 l[i].1 = o
      cases d <;> cases e <;> cases o <;> rfl
    · simp only [condF (show ¬ (0 : Int) < (i : Int) by omega), decide_eq_false h0, Bool.not_false, Bool.true_or]
      generalize l[i].2.1 = d
      generalize (l[i].2.2.toList == (⟨#[]⟩ : ByteArray).toList) = e
      cases d <;> cases e <;> rfl
theorem right_run (K : Nat) (l : List Wr) (hK : 2000000 ≤ K) : F55 K l = some (bright l) := by
  unfold F55 bright
  by_cases h : l.length < 1 ∨ 8 < l.length
  · rw [if_pos h]
    by_cases h1 : l.length < 1
    · rw [condT (by omega)]; rfl
    · rw [condF (by omega), decide_eq_true (by omega : (8 : Int) < (l.length : Int))]; rfl
  · rw [if_neg h, condF (by omega), decide_eq_false (by omega : ¬ (8 : Int) < (l.length : Int)), Option.bind_some, cond_false]
    obtain ⟨r, h1, h2⟩ := scan_run (f := L55_14 K l) (wcode l) l.length (fun i hi hz => right_step K l (by omega) hK i hi hz) (by unfold L55_14; rw [condF (by omega)]) l.length 0 K (by omega) (by omega) (fun j hj => by omega)
    rw [show (0 : Int) = ((0 : Nat) : Int) from rfl, h1, Option.bind_some]
    exact h2
def Small1 (l : List Wr) : Prop := ∀ w ∈ l, w.1.size ≤ 1048576
theorem ref_step (K : Nat) (l : List Wr) (hl : Small1 l) (hn : l.length ≤ 1000) (hK : 2000000 ≤ K) (i : Nat) (hi : i < l.length) (hz : ∀ j, j < i → wcode l j = 0) :
    L49_14 K l (i : Int) = if wcode l i = 0 then some (.inl ((i + 1 : Nat) : Int)) else some (.inr (.inl (wcode l i))) := by
  have hli : l[i]? = some l[i] := List.getElem?_eq_getElem hi
  unfold L49_14
  simp only [ixn, hli, Option.bind_some]
  rw [condT (by omega), kref_run K (hl _ (List.getElem_mem hi)) (by omega), Option.bind_some]
  rw [wcode_at hli]
  cases hk : kr l[i].1 with
  | false => rfl
  | true =>
    have hs := kr_size hk
    rw [Bool.not_true, cond_false]
    by_cases hv : 48 < l[i].2.2.size
    · rw [condT (by omega), decide_eq_true hv]; rfl
    rw [condF (by omega), decide_eq_false hv, w64 (x := (i : Int) + 1) (by omega) (by omega)]
    by_cases h0 : 0 < i
    · have hp : l[i - 1]? = some (l[i - 1]'(by omega)) := List.getElem?_eq_getElem (by omega)
      have hpk := wcode_kr hp (hz (i - 1) (by omega))
      have hps := kr_size hpk
      have hb := PSorted.ahead K (a := (l[i - 1]'(by omega)).1) (b := l[i].1) (by omega) (by omega) hK
      rw [w64 (x := (i : Int) - 1) (by omega) (by omega), show (i : Int) - 1 = ((i - 1 : Nat) : Int) by omega, ixn, hp]
      simp only [condT (show (0 : Int) < (i : Int) by omega), Option.bind_some, hb, decide_eq_true h0, Bool.not_true, Bool.false_or, Option.map_some, Option.getD_some]
      generalize l[i].2.1 = d
      generalize (l[i].2.2.toList == (⟨#[]⟩ : ByteArray).toList) = e
      generalize lt (l[i - 1]'(by omega)).1 l[i].1 = o
      cases d <;> cases e <;> cases o <;> rfl
    · simp only [condF (show ¬ (0 : Int) < (i : Int) by omega), decide_eq_false h0, Bool.not_false, Bool.true_or]
      generalize l[i].2.1 = d
      generalize (l[i].2.2.toList == (⟨#[]⟩ : ByteArray).toList) = e
      cases d <;> cases e <;> rfl
theorem ref_run (K : Nat) (l : List Wr) (hl : Small1 l) (hK : 2000000 ≤ K) : F49 K l = some (bright l) := by
  unfold F49 bright
  by_cases h : l.length < 1 ∨ 8 < l.length
  · rw [if_pos h]
    by_cases h1 : l.length < 1
    · rw [condT (by omega)]; rfl
    · rw [condF (by omega), decide_eq_true (by omega : (8 : Int) < (l.length : Int))]; rfl
  · rw [if_neg h, condF (by omega), decide_eq_false (by omega : ¬ (8 : Int) < (l.length : Int)), Option.bind_some, cond_false]
    obtain ⟨r, h1, h2⟩ := scan_run (f := L49_14 K l) (wcode l) l.length (fun i hi hz => ref_step K l hl (by omega) hK i hi hz) (by unfold L49_14; rw [condF (by omega)]) l.length 0 K (by omega) (by omega) (fun j hj => by omega)
    rw [show (0 : Int) = ((0 : Nat) : Int) from rfl, h1, Option.bind_some]
    exact h2
end Go.Proofs.YtlnadpijicfceaaDoor.PBatch1

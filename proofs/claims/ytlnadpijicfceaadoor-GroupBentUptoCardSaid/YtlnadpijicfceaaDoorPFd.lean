/- The last write of a key; BatchFind. -/
import Derived.Test.YtlnadpijicfceaaDoorPureKeys
namespace Go.Proofs.YtlnadpijicfceaaDoor.PFd
open Go.RowKit Go.Proofs.YtlnadpijicfceaaDoor.Mc Go.Proofs.YtlnadpijicfceaaDoor.N Go.Proofs.YtlnadpijicfceaaDoor.Plain Go.Proofs.YtlnadpijicfceaaDoor.PureKeys
set_option linter.unusedSimpArgs false
set_option linter.unusedVariables false
abbrev Wr : Type := ByteArray × Bool × ByteArray
theorem ba_ext {a b : ByteArray} (h : a.toList = b.toList) : a = b := by
  apply ByteArray.ext; apply Array.ext'
  rwa [ByteArray.toList_eq, ByteArray.toList_eq] at h
instance lawful : LawfulBEq ByteArray where
  eq_of_beq h := (Go.MapKept.bytes_beq _ _).1 h
  rfl := (Go.MapKept.bytes_beq _ _).2 rfl
theorem beq_ba (a b : ByteArray) : (a.toList == b.toList) = decide (a = b) := by
  by_cases h : a = b
  · subst h; simp
  · rw [decide_eq_false h, beq_eq_false_iff_ne]
    exact fun e => h (ba_ext e)
def fdn (l : List Wr) (key : ByteArray) : Nat → Option Wr
  | 0 => none
  | i + 1 => match l[i]? with
    | none => none
    | some w => if w.1.toList == key.toList then some w else fdn l key i
def fo : Option Wr → ByteArray × Bool × ByteArray × Bool
  | none => (ByteArray.empty, false, ByteArray.empty, false)
  | some w => (w.1, w.2.1, w.2.2, true)
theorem fdn_some (l : List Wr) (key : ByteArray) : ∀ (i : Nat) {w : Wr}, fdn l key i = some w → w ∈ l ∧ w.1 = key
  | 0, w, h => by cases h
  | i + 1, w, h => by
    rw [fdn] at h
    cases hli : l[i]? with
    | none => rw [hli] at h; cases h
    | some v =>
      rw [hli] at h
      simp only at h
      cases hb : v.1.toList == key.toList with
      | true =>
        rw [hb] at h
        cases h
        exact ⟨List.mem_of_getElem? hli, ba_ext (beq_iff_eq.1 hb)⟩
      | false =>
        rw [hb] at h
        exact fdn_some l key i h
theorem fdn_app (l m : List Wr) (key : ByteArray) : ∀ (i : Nat), i ≤ l.length → fdn (l ++ m) key i = fdn l key i
  | 0, _ => rfl
  | i + 1, h => by
    rw [fdn, fdn, List.getElem?_append_left (by omega), fdn_app l m key i (by omega)]
theorem fdn_snoc (l : List Wr) (w : Wr) (key : ByteArray) : fdn (l ++ [w]) key (l ++ [w]).length = if w.1 = key then some w else fdn l key l.length := by
  rw [List.length_append, List.length_singleton, fdn, List.getElem?_append_right (Nat.le_refl _), Nat.sub_self]
  simp only [List.getElem?_cons_zero, beq_ba, decide_eq_true_eq]
  rw [fdn_app l [w] key l.length (Nat.le_refl _)]
theorem reffind_loop (K : Nat) (l : List Wr) (key : ByteArray) (hl : l.length ≤ 1000000) : ∀ (i k : Nat) (z : ByteArray × ByteArray), i ≤ l.length → i < k → ∃ r, loopN (L54_6 K l key) k ((i : Int) - 1, z) = some r ∧ sel (fun y17 : ByteArray × Bool × ByteArray => some (y17.1, y17.2.1, y17.2.2, true)) (fun _ => some (ByteArray.empty, false, ByteArray.empty, false)) r = some (fo (fdn l key i))
  | 0, k, z, hi, hk => by
    obtain ⟨k, rfl⟩ : ∃ q, k = q + 1 := ⟨k - 1, by omega⟩
    exact ⟨_, loop_end (by unfold L54_6; rw [condF (by show ¬ (0 : Int) ≤ ((0 : Nat) : Int) - 1; omega)]), rfl⟩
  | i + 1, k, z, hi, hk => by
    obtain ⟨k, rfl⟩ : ∃ q, k = q + 1 := ⟨k - 1, by omega⟩
    have hli : l[i]? = some l[i] := List.getElem?_eq_getElem (by omega)
    have e : (((i + 1 : Nat) : Int) - 1) = (i : Int) := by omega
    rw [e, fdn, hli]
    simp only []
    cases hb : l[i].1.toList == key.toList with
    | true =>
      refine ⟨_, loop_end (r := .inl (l[i].1, l[i].2.1, l[i].2.2)) ?_, rfl⟩
      unfold L54_6
      simp only [ixn, Int.toNat_natCast, hli, Option.bind_some]
      rw [condT (by omega), hb, cond_true]
    | false =>
      obtain ⟨r, r1, r2⟩ := reffind_loop K l key hl i k z (by omega) (by omega)
      refine ⟨r, ?_, r2⟩
      rw [loop_step (b := ((i : Int) - 1, z))]
      · exact r1
      · unfold L54_6
        simp only [ixn, Int.toNat_natCast, hli, Option.bind_some]
        rw [condT (by omega), hb, cond_false, w64 (by omega) (by omega)]
theorem reffind_run (K : Nat) (l : List Wr) (key : ByteArray) (hl : l.length ≤ 1000000) (hK : 2000000 ≤ K) : F54 K l key = some (fo (fdn l key l.length)) := by
  obtain ⟨r, r1, r2⟩ := reffind_loop K l key hl l.length K (ByteArray.empty, ByteArray.empty) (Nat.le_refl _) (by omega)
  unfold F54
  rw [w64 (by omega) (by omega), r1, Option.bind_some]
  exact r2
/-- a search from behind, by what its step does -/
theorem fd_loop {f : (Int × ByteArray × ByteArray) → Option ((Int × ByteArray × ByteArray) ⊕ (Wr ⊕ (ByteArray × ByteArray)))} (l : List Wr) (key : ByteArray)
    (hf : ∀ (i : Nat) (h : i < l.length) (z : ByteArray × ByteArray), f ((i : Int), z) = cond (l[i].1.toList == key.toList) (some (.inr (.inl (l[i].1, l[i].2.1, l[i].2.2)))) (some (.inl ((i : Int) - 1, z)))) (he : ∀ z, ∃ q, f (((0 : Nat) : Int) - 1, z) = some (.inr (.inr q))) :
    ∀ (i k : Nat) (z : ByteArray × ByteArray), i ≤ l.length → i < k → ∃ r, loopN f k ((i : Int) - 1, z) = some r ∧ sel (fun y17 : ByteArray × Bool × ByteArray => some (y17.1, y17.2.1, y17.2.2, true)) (fun _ => some (ByteArray.empty, false, ByteArray.empty, false)) r = some (fo (fdn l key i))
  | 0, k, z, hi, hk => by
    obtain ⟨k, rfl⟩ : ∃ q, k = q + 1 := ⟨k - 1, by omega⟩
    obtain ⟨q, hq⟩ := he z
    exact ⟨_, loop_end hq, rfl⟩
  | i + 1, k, z, hi, hk => by
    obtain ⟨k, rfl⟩ : ∃ q, k = q + 1 := ⟨k - 1, by omega⟩
    have hli : l[i]? = some l[i] := List.getElem?_eq_getElem (by omega)
    have e : (((i + 1 : Nat) : Int) - 1) = (i : Int) := by omega
    have h := hf i (by omega) z
    rw [e, fdn, hli]
    simp only []
    cases hb : l[i].1.toList == key.toList with
    | true =>
      rw [hb] at h
      exact ⟨_, loop_end h, rfl⟩
    | false =>
      rw [hb] at h
      obtain ⟨r, r1, r2⟩ := fd_loop l key hf he i k z (by omega) (by omega)
      exact ⟨r, by rw [loop_step h]; exact r1, r2⟩
end Go.Proofs.YtlnadpijicfceaaDoor.PFd

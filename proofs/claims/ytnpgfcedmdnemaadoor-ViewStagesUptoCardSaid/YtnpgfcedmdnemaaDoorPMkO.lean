/- What Find, Keys and Make compute, where the writes are somebody's own row. -/
import Derived.Test.YtnpgfcedmdnemaaDoorPMk
namespace Go.Proofs.YtnpgfcedmdnemaaDoor.PMkO
open Go.RowKit Go.Proofs.YtnpgfcedmdnemaaDoor.Mc Go.Proofs.YtnpgfcedmdnemaaDoor.N Go.Proofs.YtnpgfcedmdnemaaDoor.Plain Go.Proofs.YtnpgfcedmdnemaaDoor.PureRune Go.Proofs.YtnpgfcedmdnemaaDoor.PureKeys Go.Proofs.YtnpgfcedmdnemaaDoor.PSort Go.Proofs.YtnpgfcedmdnemaaDoor.PSorted Go.Proofs.YtnpgfcedmdnemaaDoor.PBatch1 Go.Proofs.YtnpgfcedmdnemaaDoor.PMk
open Go.Proofs.YtnpgfcedmdnemaaDoor.PFd (fdn fo fdn_some)
set_option linter.unusedSimpArgs false
set_option linter.unusedVariables false
theorem take_snoc1 {α : Type} {l : List α} {j : Nat} (h : j < l.length) : l.take (j + 1) = l.take j ++ [l[j]] := by
  simp [List.take_append_getElem]
theorem find_loop (K : Nat) (l : List Wr) (key : ByteArray) (hl : l.length ≤ 1000000) : ∀ (i k : Nat) (z : ByteArray × ByteArray), i ≤ l.length → i < k → ∃ r, loopN (L43_6 K key l) k ((i : Int) - 1, z) = some r ∧ sel (fun y17 : ByteArray × Bool × ByteArray => some (y17.1, y17.2.1, y17.2.2, true)) (fun _ => some (ByteArray.empty, false, ByteArray.empty, false)) r = some (fo (fdn l key i))
  | 0, k, z, hi, hk => by
    obtain ⟨k, rfl⟩ : ∃ q, k = q + 1 := ⟨k - 1, by omega⟩
    exact ⟨_, loop_end (by unfold L43_6; rw [condF (by show ¬ (0 : Int) ≤ ((0 : Nat) : Int) - 1; omega)]), rfl⟩
  | i + 1, k, z, hi, hk => by
    obtain ⟨k, rfl⟩ : ∃ q, k = q + 1 := ⟨k - 1, by omega⟩
    have hli : l[i]? = some l[i] := List.getElem?_eq_getElem (by omega)
    have e : (((i + 1 : Nat) : Int) - 1) = (i : Int) := by omega
    rw [e, fdn, hli]
    simp only []
    cases hb : l[i].1.toList == key.toList with
    | true =>
      refine ⟨_, loop_end (r := .inl (l[i].1, l[i].2.1, l[i].2.2)) ?_, rfl⟩
      unfold L43_6
      simp only [ixn, Int.toNat_natCast, hli, Option.bind_some]
      rw [condT (by omega), hb, cond_true]
    | false =>
      obtain ⟨r, r1, r2⟩ := find_loop K l key hl i k z (by omega) (by omega)
      refine ⟨r, ?_, r2⟩
      rw [loop_step (b := ((i : Int) - 1, z))]
      · exact r1
      · unfold L43_6
        simp only [ixn, Int.toNat_natCast, hli, Option.bind_some]
        rw [condT (by omega), hb, cond_false, w64 (by omega) (by omega)]
theorem find_run (K : Nat) (l : List Wr) (key : ByteArray) (hl : l.length ≤ 1000000) (hK : 2000000 ≤ K) : F43 K key l = some (fo (fdn l key l.length)) := by
  obtain ⟨r, r1, r2⟩ := find_loop K l key hl l.length K (ByteArray.empty, ByteArray.empty) (Nat.le_refl _) (by omega)
  unfold F43
  rw [w64 (by omega) (by omega), r1, Option.bind_some]
  exact r2
theorem keys_run (K : Nat) (l : List Wr) (hs : Small2 l) (hl : l.length ≤ 1000000) (hK : 2000000 ≤ K) : F48 K l = some (ks l) := by
  unfold F48
  rw [loop_go (r := kl l) (fun i => ((i : Int), kl (l.take i))) l.length (by rfl) (by omega) ?_ ?_, Option.bind_some, sorted_run K hK (kl_small hs) (by rw [kl_len]; exact hl), Option.bind_some]; rfl
  · intro i hi
    unfold L48_8
    simp only [ixn, Int.toNat_natCast, List.getElem?_eq_getElem hi, Option.bind_some]
    rw [condT (by omega), grdD (by simp only [kl_len, List.length_take, List.length_singleton]; omega), w64 (by omega) (by omega), take_snoc1 hi, kl, kl, List.map_append]; rfl
  · unfold L48_8
    rw [condF (by omega), List.take_length]
theorem make_run (K : Nat) (l : List Wr) (hs : Small2 l) (hl : l.length ≤ 1000000) (hK : 2000000 ≤ K) : F36 K l = some (mk l) := by
  have hkl := ks_len l
  unfold F36
  rw [keys_run K l hs hl hK, Option.bind_some, loop_go (r := mk l) (fun i => ((i : Int), ((ks l).take i).map (mw l))) (ks l).length (by rfl) (by omega) ?_ ?_]; rfl
  · intro i hi
    unfold L36_8
    rw [condT (by omega), ixn, List.getElem?_eq_getElem hi, Option.bind_some, find_run K l _ hl hK, Option.bind_some]
    have e : ((cond (fo (fdn l (ks l)[i] l.length)).2.1 (some ((fo (fdn l (ks l)[i] l.length)).1, (fo (fdn l (ks l)[i] l.length)).2.1, (⟨#[]⟩ : ByteArray))) (some ((fo (fdn l (ks l)[i] l.length)).1, (fo (fdn l (ks l)[i] l.length)).2.1, (fo (fdn l (ks l)[i] l.length)).2.2.1)) : Option (ByteArray × Bool × ByteArray))) = some (mw l (ks l)[i]) := by
      unfold mw
      dsimp only
      cases (fo (fdn l (ks l)[i] l.length)).2.1 <;> rfl
    rw [e, Option.bind_some, grdD (by simp only [List.length_map, List.length_take, List.length_singleton]; omega), w64 (by omega) (by omega), take_snoc1 hi, List.map_append]; rfl
  · unfold L36_8
    rw [condF (by omega), List.take_length]; rfl
end Go.Proofs.YtnpgfcedmdnemaaDoor.PMkO

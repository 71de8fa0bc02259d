/- ViewFull's plain law. -/
import Derived.Test.YtnpgfcedmdnemaaDoorPNote
namespace Go.Proofs.YtnpgfcedmdnemaaDoor.PureViewFull
open Go.RowKit Go.Proofs.YtnpgfcedmdnemaaDoor.Mc Go.Proofs.YtnpgfcedmdnemaaDoor.N Go.Proofs.YtnpgfcedmdnemaaDoor.Plain Go.Proofs.YtnpgfcedmdnemaaDoor.PView Go.Proofs.YtnpgfcedmdnemaaDoor.PNote
set_option linter.unusedSimpArgs false
set_option linter.unusedVariables false
noncomputable def kf (j : Nat) : ByteArray := strOfNums [(IntKind.wrap .u8 (97 + (IntKind.wrap .u8 (IntKind.wrap .i64 ((j : Int).tdiv 16))))), (IntKind.wrap .u8 (97 + (IntKind.wrap .u8 ((j : Int).tmod 16))))]
def bk (b : ByteArray) : Nat := match b.toList with | [x, y] => (x.toNat - 97) * 16 + (y.toNat - 97) | _ => 0
theorem bk_kf : ∀ j, j < 144 → bk (kf j) = j := by decide +kernel
theorem kf_inj {i j : Nat} (hi : i < 144) (hj : j < 144) (h : kf i = kf j) : i = j := by rw [← bk_kf i hi, ← bk_kf j hj, h]
noncomputable def aw (j : Nat) : Aw := (kf j, false, ByteArray.empty, 0)
noncomputable def A (p m : Nat) : List Aw := (List.range m).map fun j => aw (p + j)
theorem A_len (p m : Nat) : (A p m).length = m := by simp [A]
theorem A_snoc (p m : Nat) : A p (m + 1) = A p m ++ [aw (p + m)] := by
  unfold A
  rw [List.range_succ, List.map_append]; rfl
theorem keys_nt (f : Int) (R : List Rd) (p : Nat) (hR : R.map (·.1) = (List.range p).map kf) : ∀ m, p + m ≤ 144 → (nt f R (A p m)).map (·.1) = (List.range (p + m)).map kf
  | 0, _ => by simpa [A, nt] using hR
  | m + 1, h => by
    have ih := keys_nt f R p hR m (by omega)
    rw [A_snoc, nt_snoc, n1_keys, ih]
    have hk : ki (nt f R (A p m)) (aw (p + m)).1 = none := by
      rw [ki_map, ih, List.findIdx?_eq_none_iff]
      intro x hx
      obtain ⟨j, hj, rfl⟩ := List.mem_map.1 hx
      rw [List.mem_range] at hj
      rw [PFd.beq_ba, decide_eq_false_iff_not]
      intro e
      have := kf_inj (by omega) (by omega) e
      omega
    rw [hk, ← Nat.add_assoc, List.range_succ, List.map_append]; rfl
theorem build (K : Nat) (p m : Nat) (hm : m ≤ 144) (hp : p ≤ 144) (hK : 300000 ≤ K) : loopN (L25_8 K ((p + m : Nat) : Int)) K ((p : Int), []) = some (A p m) := by
  refine loop_go (fun i => (((p + i : Nat) : Int), A p i)) m rfl (by omega) (fun i hi => ?_) ?_
  · unfold L25_8
    dsimp only
    rw [condT (by omega), grdD (by rw [A_len]; simp; omega), A_snoc, w64 (by omega) (by omega)]; rfl
  · unfold L25_8
    dsimp only
    rw [condF (by omega)]
theorem fill (K : Nat) (p m : Nat) (hm : m ≤ 144) (hp : p ≤ 144) (hK : 300000 ≤ K) (R : List Rd) (hR : R.length ≤ 1000) (W : List PBatch1.Wr) : F25 K (p : Int) ((p + m : Nat) : Int) R W = some (if 48 < (nt 0 R (A p m)).length then (12, R) else (0, nt 0 R (A p m))) := by
  unfold F25
  rw [build K p m hm hp hK, Option.bind_some, note1_run K hK _ _ _ _ (by rw [A_len]; omega) (by omega), Option.bind_some]
theorem pick_run (K : Nat) (x : Int) (n : Int) (hn : 0 < n) (hn2 : n ≤ 1000) (h : -9223372036854775808 ≤ x ∧ x < 9223372036854775808) : F24 K x n = some (x % n) := by
  unfold F24
  rw [grdT (by simp; omega)]
  have h1 := Int.emod_nonneg x (show n ≠ 0 by omega)
  have h2 := Int.emod_lt_of_pos x hn
  have h3 := tmod_emod (a := x) hn
  by_cases hs : x.tmod n < 0
  · rw [if_pos hs] at h3
    rw [condT hs, h3, w64 (by omega) (by omega)]; rfl
  · rw [if_neg hs] at h3
    rw [condF hs, h3]; rfl
theorem law (x1 x2 : Int) (g : gdT [.int .i64, .int .i64] (x1, x2)) : ∃ k, F6 k x1 x2 = some true := by
  refine ⟨2000000, ?_⟩
  have h1 := i64_wf (x := x1) g.1
  have h2 := i64_wf (x := x2) g.2
  unfold F6 F9
  rw [Option.bind_some, alive _ (Nat.le_refl _), Option.bind_some]
  simp only [Bool.not_true, cond_false, Option.bind_some]
  rw [pick_run _ x1 49 (by omega) (by omega) h1, pick_run _ x2 96 (by omega) (by omega) h2, Option.bind_some, Option.bind_some]
  obtain ⟨p, hp⟩ : ∃ p : Nat, x1 % 49 = (p : Int) := ⟨(x1 % 49).toNat, by omega⟩
  obtain ⟨m, hm⟩ : ∃ m : Nat, x2 % 96 = (m : Int) := ⟨(x2 % 96).toNat, by omega⟩
  have hp2 : p < 49 := by omega
  have hm2 : m < 96 := by omega
  rw [hp, hm, w64 (by omega) (by omega)]
  have e0 : (nt 0 [] (A 0 p)).map (·.1) = (List.range p).map kf := by
    have := keys_nt 0 [] 0 rfl p (by omega)
    rwa [Nat.zero_add] at this
  have l0 : (nt 0 [] (A 0 p)).length = p := by simpa using congrArg List.length e0
  have e1 := keys_nt 0 _ p e0 m (by omega)
  have l1 : (nt 0 (nt 0 [] (A 0 p)) (A p m)).length = p + m := by simpa using congrArg List.length e1
  have f0 := fill 2000000 0 p (by omega) (by omega) (by omega) [] (by simp) []
  rw [l0, if_neg (by omega), Nat.zero_add] at f0
  rw [show (0 : Int) = ((0 : Nat) : Int) from rfl, f0]
  simp only [Option.bind_some]
  rw [show ((0 : Int) != ((0 : Nat) : Int)) = false from rfl, cond_false, reads_run _ _ _ (by omega), Option.bind_some, l0, Option.bind_some]
  simp only [bne_self_eq_false, cond_false]
  have f1 := fill 2000000 p m (by omega) (by omega) (by omega) (nt 0 [] (A 0 p)) (by omega) []
  rw [l1] at f1
  rw [show (p : Int) + (m : Int) = ((p + m : Nat) : Int) by omega, f1, Option.bind_some]
  by_cases h : 48 < p + m
  · rw [condT (by omega), if_pos h]
    dsimp only
    rw [show ((12 : Int) == 12) = true from rfl, cond_true, reads_run _ _ _ (by omega), Option.bind_some, l0, beq_self_eq_true]
  · rw [condF (by omega), if_neg h]
    dsimp only
    rw [show ((0 : Int) == ((0 : Nat) : Int)) = true from rfl, cond_true, reads_run _ _ _ (by omega), Option.bind_some, l1, beq_self_eq_true]
end Go.Proofs.YtnpgfcedmdnemaaDoor.PureViewFull

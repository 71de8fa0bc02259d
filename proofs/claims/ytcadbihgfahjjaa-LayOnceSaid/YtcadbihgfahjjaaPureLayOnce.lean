/- Plain law: LayOnce. -/
import Derived.Test.YtcadbihgfahjjaaPureText
namespace Go.Proofs.Ytcadbihgfahjjaa.PureLayOnce
open Go.RowKit Go.Proofs.Ytcadbihgfahjjaa.Mc Go.Proofs.Ytcadbihgfahjjaa.N Go.Proofs.Ytcadbihgfahjjaa.MLay Go.Proofs.Ytcadbihgfahjjaa.PureLay Go.Proofs.Ytcadbihgfahjjaa.PureGet Go.Proofs.Ytcadbihgfahjjaa.PureInv Go.Proofs.Ytcadbihgfahjjaa.PureText

/-- what a number was read from -/
theorem read_num (b : ByteArray) (at_ : Int) (h : (getNum (bt b) b.size at_).2.2 = 0) : ∃ (p c : Nat), at_ = p ∧ (getNum (bt b) b.size at_).1 = c ∧ c < 4294967296 ∧ (getNum (bt b) b.size at_).2.1 = ((p + (nI c).length : Nat) : Int) ∧ p + (nI c).length ≤ b.size ∧
    b.extract p (p + (nI c).length) = strOfNums (nI c) := by
  have hb := getNum_bound b at_
  have h0 := (hb.2.2.2 h).1
  obtain ⟨p, rfl⟩ := Int.eq_ofNat_of_zero_le h0
  have hle : ¬ ((p : Int) < 0 ∨ (p : Int) > b.size) := by have := hb.2.2.2 h; omega
  have e : getNum (bt b) b.size p = gn 5 (bt b) b.size p 0 0 := by unfold getNum; rw [if_neg hle]
  have hinv := gn_inv (bt b) b.size (bt_range b) 5 0 p 0 (getNum (bt b) b.size p).1 (getNum (bt b) b.size p).2.1 (by
    rw [show ((0 : Nat) : Int) = 0 from rfl, ← e]
    rw [← h])
  obtain ⟨c, h1, h2, h3, h4, _⟩ := hinv
  have h1' : (getNum (bt b) b.size p).1 = c := by rw [h1]; simp
  refine ⟨p, c, rfl, h1', by omega, by rw [h2]; omega, by omega, cut_nI b p c (by omega) h4⟩

theorem law (a0 : ByteArray) (w0 : a0.size ≤ 140737488351232) (a1 : Int) (w1 : (Lit.int .i64 a1).wf = true) : ∃ k, F7 k a0 a1 = some true := by
  refine ⟨100, ?_⟩
  unfold F7
  rw [get14 (by omega) a0 a1 (by omega), Option.bind_some, text16 (by omega) a0 a1 _ (by omega), Option.bind_some, alive, Option.bind_some]
  simp only [Bool.not_true, cond_false]
  -- the second part
  have second : F7_1 100 a0 a1 (getText a0 a1 1048576) false = some true := by
    unfold F7_1
    rw [cond_false]
    by_cases hf : (getText a0 a1 1048576).2.2 = 0
    · have : ((getText a0 a1 1048576).2.2 != 0) = false := by simpa using hf
      rw [this, cond_false]
      unfold getText at hf ⊢
      dsimp only at hf ⊢
      by_cases h0 : (getNum (bt a0) a0.size a1).2.2 = 0
      · obtain ⟨p, c, rfl, h1, hc, h2, h3, h4⟩ := read_num a0 a1 h0
        simp only [h0, ne_eq, not_true_eq_false, if_false] at hf ⊢
        by_cases h5 : max 1048576 0 < (getNum (bt a0) a0.size p).1
        · rw [if_pos h5] at hf; simp at hf
        rw [if_neg h5] at hf ⊢
        by_cases h6 : (a0.size : Int) - (getNum (bt a0) a0.size p).2.1 < (getNum (bt a0) a0.size p).1
        · rw [if_pos h6] at hf; simp at hf
        rw [if_neg h6]
        simp only
        rw [h1, h2] at *
        have hl := nI_pos c
        rw [cond_d, if_pos (by omega), cond_d, if_pos (by omega), cond_d, if_pos (by omega), grd_t (by unfold bnds; exact decide_eq_true (by omega))]
        have e1 : (((p + (nI c).length : Nat) : Int)).toNat = p + (nI c).length := by omega
        have e2 : (((p + (nI c).length : Nat) : Int) + (c : Int)).toNat = p + (nI c).length + c := by omega
        have e3 : ((p : Int)).toNat = p := by omega
        rw [e1, e2, e3]
        have hsz : (a0.extract (p + (nI c).length) (p + (nI c).length + c)).size = c := by
          rw [ByteArray.size_extract]; omega
        rw [text12 (by omega) _ (by rw [hsz]; omega), Option.bind_some]
        have hln : ln (a0.extract (p + (nI c).length) (p + (nI c).length + c)) = c := by unfold ln; rw [hsz]; omega
        rw [hln, ← h4]
        have : a0.extract p (p + (nI c).length) ++ a0.extract (p + (nI c).length) (p + (nI c).length + c) = a0.extract p (p + (nI c).length + c) := by
          rw [ByteArray.extract_append_extract]
          congr 1 <;> omega
        rw [this]
        simp [F7_2]
      · rw [if_pos h0] at hf
        exact absurd hf h0
    · have : ((getText a0 a1 1048576).2.2 != 0) = true := by simpa using hf
      rw [this, cond_true]; rfl
  by_cases h0 : (getNum (bt a0) a0.size a1).2.2 = 0
  · obtain ⟨p, c, rfl, h1, hc, h2, h3, h4⟩ := read_num a0 a1 h0
    have : ((getNum (bt a0) a0.size p).2.2 == 0) = true := by simpa using h0
    have hl := nI_pos c
    rw [this, cond_true, cond_d, if_neg (by omega), cond_d, if_neg (by rw [h2]; omega), cond_d, if_neg (by rw [h2]; omega), grd_t (by unfold bnds; exact decide_eq_true (by rw [h2]; omega)), h1, num10 (by omega) c hc, Option.bind_some, h2]
    have e1 : (((p + (nI c).length : Nat) : Int)).toNat = p + (nI c).length := by omega
    have e3 : ((p : Int)).toNat = p := by omega
    rw [e1, e3, h4]
    simpa using second
  · have : ((getNum (bt a0) a0.size a1).2.2 == 0) = false := by simpa using h0
    rw [this, cond_false]; exact second
end Go.Proofs.Ytcadbihgfahjjaa.PureLayOnce

/- Plain law: what is written is read again, behind and ahead of anything; cut off it ends too early. -/
import Derived.Test.YtcadbihgfahjjaaPureText
namespace Go.Proofs.Ytcadbihgfahjjaa.PureBack
open Go.RowKit Go.Proofs.Ytcadbihgfahjjaa.Mc Go.Proofs.Ytcadbihgfahjjaa.N Go.Proofs.Ytcadbihgfahjjaa.MLay Go.Proofs.Ytcadbihgfahjjaa.PureLay Go.Proofs.Ytcadbihgfahjjaa.PureGet Go.Proofs.Ytcadbihgfahjjaa.PureInv Go.Proofs.Ytcadbihgfahjjaa.PureText

theorem nI_byte : ∀ (c : Nat) (j : Nat) (x : Int), (nI c)[j]? = some x → 0 ≤ x ∧ x ≤ 255
  | c, j, x, h => by
    by_cases hc : c < 128
    · rw [nI_small hc] at h
      cases j with
      | zero => simp at h; omega
      | succ j => simp at h
    · rw [nI_big hc] at h
      cases j with
      | zero => simp at h; omega
      | succ j => exact nI_byte (c / 128) j x (by simpa using h)
termination_by c => c
decreasing_by omega

theorem bt_get (b : ByteArray) (p : Nat) (h : p < b.size) : bt b (p : Int) = ((b[p]'h).toNat : Int) := by
  unfold bt
  rw [dif_pos (by simpa using h)]
  rfl

theorem son_get (xs : List Int) (j : Nat) (x : Int) (hj : xs[j]? = some x) (h : j < (strOfNums xs).size) : (strOfNums xs)[j]'h = UInt8.ofNat x.toNat := by
  obtain ⟨h1, h2⟩ := List.getElem?_eq_some_iff.1 hj
  rw [ByteArray.getElem_eq_getElem_data]
  simp only [strOfNums, List.getElem_toArray, List.getElem_map, h2]

/-- a byte of a middle part -/
theorem bt_mid (A B : ByteArray) (xs : List Int) (hb : ∀ (j : Nat) (x : Int), xs[j]? = some x → 0 ≤ x ∧ x ≤ 255) (j : Nat) (x : Int) (hj : xs[j]? = some x) : bt (A ++ strOfNums xs ++ B) ((A.size : Int) + j) = x := by
  have hjl := (List.getElem?_eq_some_iff.1 hj).1
  have hx := hb j x hj
  have hN : (strOfNums xs).size = xs.length := strOfNums_size xs
  have hlt : A.size + j < (A ++ strOfNums xs ++ B).size := by rw [ByteArray.size_append, ByteArray.size_append, hN]; omega
  rw [show (A.size : Int) + j = ((A.size + j : Nat) : Int) from by omega, bt_get _ _ hlt]
  rw [ByteArray.getElem_append_left (by rw [ByteArray.size_append, hN]; omega), ByteArray.getElem_append_right (by omega)]
  have e : A.size + j - A.size = j := by omega
  have := son_get xs j x hj (by omega)
  simp only [e, this]
  simp
  omega

theorem num_read (A B : ByteArray) (c : Nat) (hc : c < 4294967296) : getNum (bt (A ++ strOfNums (nI c) ++ B)) (A ++ strOfNums (nI c) ++ B).size A.size = ((c : Int), (A.size : Int) + (nI c).length, 0) := by
  have hs : (A ++ strOfNums (nI c) ++ B).size = A.size + (nI c).length + B.size := by rw [ByteArray.size_append, ByteArray.size_append, strOfNums_size]
  unfold getNum
  rw [if_neg (by omega)]
  have := gn_fwd (bt (A ++ strOfNums (nI c) ++ B)) (A ++ strOfNums (nI c) ++ B).size (bt_range _) 5 0 c A.size 0 (by omega) (by simp; omega) (by omega) (fun j x hj => bt_mid A B (nI c) (nI_byte c) j x hj) (by omega)
  simpa using this

/-- a text that is written, read -/
theorem text_read (A B s : ByteArray) (hs : s.size < 4294967296) (most : Int) : getText (A ++ (strOfNums (nI (ln s)) ++ s) ++ B) A.size most =
    if max most 0 < s.size then (ByteArray.mk #[], 0, 4) else (s, (A.size : Int) + (nI (ln s)).length + s.size, 0) := by
  have hln : ln s = s.size := by unfold ln; omega
  rw [hln]
  have e : A ++ (strOfNums (nI s.size) ++ s) ++ B = A ++ strOfNums (nI s.size) ++ (s ++ B) := by simp [ByteArray.append_assoc]
  have hsz : (A ++ (strOfNums (nI s.size) ++ s) ++ B).size = A.size + ((nI s.size).length + s.size) + B.size := by simp [ByteArray.size_append, strOfNums_size]
  unfold getText
  rw [show getNum (bt (A ++ (strOfNums (nI s.size) ++ s) ++ B)) (A ++ (strOfNums (nI s.size) ++ s) ++ B).size A.size = ((s.size : Int), (A.size : Int) + (nI s.size).length, 0) from by
    rw [e]; exact num_read A (s ++ B) s.size hs]
  dsimp only
  rw [if_neg (by simp)]
  by_cases h : max most 0 < s.size
  · rw [if_pos h, if_pos h]
  · rw [if_neg h, if_neg h, if_neg (by rw [hsz]; omega)]
    have e1 : ((A.size : Int) + (nI s.size).length).toNat = A.size + (nI s.size).length := by omega
    have e2 : ((A.size : Int) + (nI s.size).length + s.size).toNat = A.size + (nI s.size).length + s.size := by omega
    rw [e1, e2, e]
    have : (A ++ strOfNums (nI s.size) ++ (s ++ B)).extract (A.size + (nI s.size).length) (A.size + (nI s.size).length + s.size) = s := by
      have hM : (A ++ strOfNums (nI s.size)).size = A.size + (nI s.size).length := by rw [ByteArray.size_append, strOfNums_size]
      have := ByteArray.extract_append_size_add' (a := A ++ strOfNums (nI s.size)) (b := s ++ B) (i := 0) (j := s.size) (k := A.size + (nI s.size).length) hM.symm
      rw [Nat.add_zero] at this
      rw [this, ByteArray.extract_append_eq_left rfl]
    rw [this]
end Go.Proofs.Ytcadbihgfahjjaa.PureBack

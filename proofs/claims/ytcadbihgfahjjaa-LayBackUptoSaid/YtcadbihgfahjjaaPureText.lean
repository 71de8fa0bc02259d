/- Plain law: reading a text, and bytes cut out. -/
import Derived.Test.YtcadbihgfahjjaaPureInv
namespace Go.Proofs.Ytcadbihgfahjjaa.PureText
open Go.RowKit Go.Proofs.Ytcadbihgfahjjaa.Mc Go.Proofs.Ytcadbihgfahjjaa.N Go.Proofs.Ytcadbihgfahjjaa.MLay Go.Proofs.Ytcadbihgfahjjaa.PureLay Go.Proofs.Ytcadbihgfahjjaa.PureGet Go.Proofs.Ytcadbihgfahjjaa.PureInv

theorem bt_data (b : ByteArray) (p : Nat) (h : p < b.size) : bt b (p : Int) = ((b.data[p]'(by simpa using h)).toNat : Int) := by
  unfold bt
  rw [dif_pos (by simpa using h)]
  rfl

theorem cut_nI (b : ByteArray) (p : Nat) (c : Nat) (hp : p + (nI c).length ≤ b.size) (hx : ∀ (j : Nat) (x : Int), (nI c)[j]? = some x → bt b ((p : Int) + j) = x) : b.extract p (p + (nI c).length) = strOfNums (nI c) := by
  apply ByteArray.ext
  apply Array.ext
  · show (b.extract p (p + (nI c).length)).size = (strOfNums (nI c)).size
    rw [ByteArray.size_extract, strOfNums_size]; omega
  · intro j h1 h2
    have hj : j < (nI c).length := by simpa [strOfNums] using h2
    have hg := hx j _ (List.getElem?_eq_getElem hj)
    have hpj : p + j < b.size := by omega
    rw [show (p : Int) + j = ((p + j : Nat) : Int) from by omega, bt_data b (p + j) hpj] at hg
    simp only [strOfNums, ByteArray.data_extract, Array.getElem_extract, List.getElem_toArray, List.getElem_map]
    rw [← hg]
    simp

def getText (b : ByteArray) (at_ most : Int) : ByteArray × Int × Int :=
  let r := getNum (bt b) b.size at_
  if r.2.2 ≠ 0 then (ByteArray.mk #[], 0, r.2.2)
  else if max most 0 < r.1 then (ByteArray.mk #[], 0, 4)
  else if b.size - r.2.1 < r.1 then (ByteArray.mk #[], 0, 3)
  else (b.extract r.2.1.toNat (r.2.1 + r.1).toNat, r.2.1 + r.1, 0)

theorem getNum_bound (b : ByteArray) (at_ : Int) : 0 ≤ (getNum (bt b) b.size at_).1 ∧ (getNum (bt b) b.size at_).1 < 4294967296 ∧ 0 ≤ (getNum (bt b) b.size at_).2.1 ∧ ((getNum (bt b) b.size at_).2.2 = 0 → 0 ≤ at_ ∧ at_ < (getNum (bt b) b.size at_).2.1 ∧ (getNum (bt b) b.size at_).2.1 ≤ b.size) := by
  unfold getNum
  by_cases h : at_ < 0 ∨ at_ > b.size
  · rw [if_pos h]; simp
  · rw [if_neg h]
    have := gn_bound (bt b) b.size (bt_range b) 5 at_ 0 0 (by omega) (by omega) (by omega) (by simp)
    simp only [Int.natCast_zero] at this
    exact ⟨this.1, this.2.1, this.2.2.1, fun h0 => ⟨by omega, this.2.2.2.2 h0⟩⟩

theorem mx_max (a b : Int) : mx a b = max a b := by unfold mx; split <;> omega

theorem text16 {k : Nat} (hk : 6 ≤ k) (b : ByteArray) (at_ most : Int) (hsz : b.size ≤ 281474976710656) : F16 k b at_ most = some (getText b at_ most) := by
  unfold F16
  rw [get14 hk b at_ hsz, Option.bind_some]
  have hb := getNum_bound b at_
  unfold getText
  generalize getNum (bt b) b.size at_ = r at hb
  dsimp only
  by_cases h0 : r.2.2 = 0
  · rw [h0]
    have hbb := hb.2.2.2 h0
    have hw1 : IntKind.wrap .i64 r.1 = r.1 := w64 _ (by omega) (by omega)
    have hw2 : IntKind.wrap .i64 ((b.size : Int) - r.2.1) = b.size - r.2.1 := w64 _ (by omega) (by omega)
    have hw3 : IntKind.wrap .i64 (r.2.1 + r.1) = r.2.1 + r.1 := w64 _ (by omega) (by omega)
    rw [hw1, hw2, hw3, mx_max]
    simp only [bne_self_eq_false, cond_false, ne_eq, not_true_eq_false, if_false, cond_d]
    by_cases h1 : max most 0 < r.1
    · rw [if_pos h1, if_pos h1]
    · rw [if_neg h1, if_neg h1]
      unfold bnd
      dsimp only
      rw [cond_d]
      by_cases h2 : b.size - r.2.1 < r.1
      · rw [if_pos h2, if_pos h2]
      · rw [if_neg h2, if_neg h2, grd_t (by unfold bnds; exact decide_eq_true (by omega))]
  · have : (r.2.2 != 0) = true := by simpa using h0
    rw [this, cond_true, if_pos h0]
end Go.Proofs.Ytcadbihgfahjjaa.PureText

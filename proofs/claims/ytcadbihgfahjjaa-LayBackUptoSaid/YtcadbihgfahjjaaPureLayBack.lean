/- Plain law: LayBack. -/
import Derived.Test.YtcadbihgfahjjaaPureBack
namespace Go.Proofs.Ytcadbihgfahjjaa.PureLayBack
open Go.RowKit Go.Proofs.Ytcadbihgfahjjaa.Mc Go.Proofs.Ytcadbihgfahjjaa.N Go.Proofs.Ytcadbihgfahjjaa.MLay Go.Proofs.Ytcadbihgfahjjaa.PureLay Go.Proofs.Ytcadbihgfahjjaa.PureGet Go.Proofs.Ytcadbihgfahjjaa.PureInv Go.Proofs.Ytcadbihgfahjjaa.PureText Go.Proofs.Ytcadbihgfahjjaa.PureBack

theorem whole (a : ByteArray) {j : Nat} (h : a.size ≤ j) : a.extract 0 j = a := by
  have := ByteArray.extract_zero_max_size (a := a) (i := j)
  rwa [show max j a.size = j from by omega] at this

theorem num_cut (A B : ByteArray) (c cut : Nat) (hc : c < 4294967296) (hcut : cut < (nI c).length) :
    getNum (bt ((A ++ strOfNums (nI c) ++ B).extract 0 (A.size + cut))) ((A ++ strOfNums (nI c) ++ B).extract 0 (A.size + cut)).size A.size = (0, 0, 3) := by
  have hM : (A ++ strOfNums (nI c) ++ B).size = A.size + (nI c).length + B.size := by rw [ByteArray.size_append, ByteArray.size_append, strOfNums_size]
  have hs : ((A ++ strOfNums (nI c) ++ B).extract 0 (A.size + cut)).size = A.size + cut := by rw [ByteArray.size_extract]; omega
  unfold getNum
  rw [if_neg (by omega)]
  have := gn_cut (bt ((A ++ strOfNums (nI c) ++ B).extract 0 (A.size + cut))) ((A ++ strOfNums (nI c) ++ B).extract 0 (A.size + cut)).size (bt_range _) 5 0 c A.size 0 (by omega) (by simp; omega) (by omega) (fun j x hj hlt => by
    have hjl : A.size + j < ((A ++ strOfNums (nI c) ++ B).extract 0 (A.size + cut)).size := by omega
    have h2 := bt_mid A B (nI c) (nI_byte c) j x hj
    rw [show (A.size : Int) + j = ((A.size + j : Nat) : Int) from by omega] at h2 ⊢
    rw [bt_get _ _ (by omega)] at h2
    rw [bt_get _ _ hjl, ByteArray.getElem_extract]
    simpa using h2) (by omega) (by omega)
  simpa using this

theorem text_cut (A s : ByteArray) (hs : s.size < 4294967296) : (getText ((A ++ (strOfNums (nI (ln s)) ++ s)).extract 0 ((A ++ (strOfNums (nI (ln s)) ++ s)).size - 1)) A.size s.size).2.2 = 3 := by
  have hln : ln s = s.size := by unfold ln; omega
  rw [hln]
  have hl := nI_pos s.size
  have hsz : (A ++ (strOfNums (nI s.size) ++ s)).size = A.size + ((nI s.size).length + s.size) := by simp [ByteArray.size_append, strOfNums_size]
  by_cases h0 : s.size = 0
  · have hl1 : (nI s.size).length = 1 := by rw [h0, nI_small (by omega)]; rfl
    have he : ((A ++ (strOfNums (nI s.size) ++ s)).extract 0 ((A ++ (strOfNums (nI s.size) ++ s)).size - 1)).size = A.size := by rw [ByteArray.size_extract]; omega
    generalize (A ++ (strOfNums (nI s.size) ++ s)).extract 0 ((A ++ (strOfNums (nI s.size) ++ s)).size - 1) = b at he
    have : getNum (bt b) b.size A.size = (0, 0, 3) := by
      unfold getNum
      rw [if_neg (by omega)]
      unfold gn
      rw [if_pos (by omega)]
    unfold getText
    rw [this]
    simp
  · have e : (A ++ (strOfNums (nI s.size) ++ s)).extract 0 ((A ++ (strOfNums (nI s.size) ++ s)).size - 1) = A ++ strOfNums (nI s.size) ++ s.extract 0 (s.size - 1) := by
      rw [hsz, ← ByteArray.append_assoc, ByteArray.extract_append]
      have h1 : (A ++ strOfNums (nI s.size)).size = A.size + (nI s.size).length := by rw [ByteArray.size_append, strOfNums_size]
      rw [whole _ (by omega), h1]
      congr 2 <;> omega
    rw [e]
    unfold getText
    rw [num_read A (s.extract 0 (s.size - 1)) s.size hs]
    dsimp only
    have hsz2 : (A ++ strOfNums (nI s.size) ++ s.extract 0 (s.size - 1)).size = A.size + (nI s.size).length + (s.size - 1) := by
      rw [ByteArray.size_append, ByteArray.size_append, strOfNums_size, ByteArray.size_extract]; omega
    rw [if_neg (by simp), if_neg (by omega), if_pos (by rw [hsz2]; omega)]

theorem law (a0 : Int) (w0 : (Lit.int .u32 a0).wf = true) (a1 : ByteArray) (w1 : a1.size ≤ 1048576) (a2 : ByteArray) (w2 : a2.size ≤ 1048576) (a3 : ByteArray) (w3 : a3.size ≤ 1048576) (a4 : Int) (_ : (Lit.int .i64 a4).wf = true) : ∃ k, F6 k a0 a1 a2 a3 a4 = some true := by
  obtain ⟨v, rfl, hv⟩ := u32 w0
  refine ⟨100, ?_⟩
  have hl := nI_length v hv
  have hl2 := nI_length (ln a1) (ln_lt a1)
  have hN : (strOfNums (nI v)).size = (nI v).length := strOfNums_size _
  have hT : (strOfNums (nI (ln a1)) ++ a1).size = (nI (ln a1)).length + a1.size := by rw [ByteArray.size_append, strOfNums_size]
  unfold F6
  rw [num10 (by omega) v hv, Option.bind_some, grd_t (decide_eq_true (by omega)), text12 (by omega) a1 (by omega), Option.bind_some]
  have h1 : (a2 ++ strOfNums (nI v)).size = a2.size + (nI v).length := by rw [ByteArray.size_append, hN]
  have h2 : (a2 ++ strOfNums (nI v) ++ (strOfNums (nI (ln a1)) ++ a1)).size = a2.size + (nI v).length + ((nI (ln a1)).length + a1.size) := by rw [ByteArray.size_append, h1, hT]
  have h3 : (a2 ++ strOfNums (nI v) ++ (strOfNums (nI (ln a1)) ++ a1) ++ a3).size = a2.size + (nI v).length + ((nI (ln a1)).length + a1.size) + a3.size := by rw [ByteArray.size_append, h2]
  rw [grd_t (decide_eq_true (by omega)), grd_t (decide_eq_true (by omega)), get14 (by omega) _ _ (by omega), Option.bind_some, grd_t (decide_eq_true (by omega))]
  have r1 : getNum (bt (a2 ++ strOfNums (nI v) ++ (strOfNums (nI (ln a1)) ++ a1) ++ a3)) (a2 ++ strOfNums (nI v) ++ (strOfNums (nI (ln a1)) ++ a1) ++ a3).size a2.size = ((v : Int), (a2.size : Int) + (nI v).length, 0) := by
    have := num_read a2 ((strOfNums (nI (ln a1)) ++ a1) ++ a3) v hv
    simpa only [ByteArray.append_assoc] using this
  rw [r1]
  dsimp only
  rw [text16 (by omega) _ _ _ (by omega), Option.bind_some, alive, Option.bind_some]
  have r2 := text_read (a2 ++ strOfNums (nI v)) a3 a1 (by omega) a1.size
  rw [h1, if_neg (by omega)] at r2
  rw [show (a2.size : Int) + (nI v).length = ((a2.size + (nI v).length : Nat) : Int) from by omega, r2]
  dsimp only
  have t1 : (((v : Int)) != (v : Int)) = false := by simp
  have t2 : (!(a1.toList == a1.toList)) = false := by simp
  have t3 : ((((a2.size + (nI v).length : Nat) : Int) + (nI (ln a1)).length + a1.size) != ((a2 ++ strOfNums (nI v) ++ (strOfNums (nI (ln a1)) ++ a1)).size : Int)) = false := by
    rw [h2]; simp; omega
  rw [t1, t2, t3]
  simp only [Bool.not_true, cond_false, bne_self_eq_false]
  unfold F6_1
  rw [cond_false, num10 (by omega) v hv, Option.bind_some]
  -- the cut
  have main : ∀ cut : Nat, cut < (nI v).length → F6_2 100 a1 a2 (strOfNums (nI v)) (strOfNums (nI (ln a1)) ++ a1) ((v : Int), (((a2.size + (nI v).length : Nat) : Int)), 0) (cut : Int) = some true := by
    intro cut hcut
    unfold F6_2
    have e1 : IntKind.wrap .i64 ((a2.size : Int) + cut) = ((a2.size + cut : Nat) : Int) := by rw [w64 _ (by omega) (by omega)]; omega
    have e2 : IntKind.wrap .i64 (((a2 ++ strOfNums (nI v) ++ (strOfNums (nI (ln a1)) ++ a1)).size : Int) - 1) = (((a2 ++ strOfNums (nI v) ++ (strOfNums (nI (ln a1)) ++ a1)).size - 1 : Nat) : Int) := by
      have := nI_pos v
      rw [w64 _ (by omega) (by omega)]; omega
    rw [e1, e2]
    have z : ((0 : Int)).toNat = 0 := rfl
    have z1 : (((a2.size + cut : Nat) : Int)).toNat = a2.size + cut := by omega
    have z2 : ((((a2 ++ strOfNums (nI v) ++ (strOfNums (nI (ln a1)) ++ a1)).size - 1 : Nat) : Int)).toNat = (a2 ++ strOfNums (nI v) ++ (strOfNums (nI (ln a1)) ++ a1)).size - 1 := by omega
    rw [z, z1, z2, grd_t (by unfold bnds; exact decide_eq_true (by omega)), get14 (by omega) _ _ (by rw [ByteArray.size_extract]; omega), Option.bind_some, num_cut a2 _ v cut hv hcut, grd_t (by unfold bnds; exact decide_eq_true (by omega)),
      text16 (by omega) _ _ _ (by rw [ByteArray.size_extract]; omega), Option.bind_some]
    have := text_cut (a2 ++ strOfNums (nI v)) a1 (by omega)
    rw [h1] at this
    dsimp only
    rw [this]
    rfl
  rw [cond_d]
  have zero : F6_4 100 a1 a2 a4 (strOfNums (nI v)) (strOfNums (nI (ln a1)) ++ a1) ((v : Int), (((a2.size + (nI v).length : Nat) : Int)), 0) true = some true := by
    unfold F6_4
    rw [cond_true]
    exact main 0 (nI_pos v)
  by_cases c1 : a4 < 0
  · rw [if_pos c1]; exact zero
  · rw [if_neg c1, hN]
    by_cases c2 : ((nI v).length : Int) ≤ a4
    · rw [decide_eq_true c2]; exact zero
    · rw [decide_eq_false c2]
      unfold F6_4
      rw [cond_false]
      obtain ⟨cut, rfl⟩ := Int.eq_ofNat_of_zero_le (by omega : 0 ≤ a4)
      exact main cut (by omega)
end Go.Proofs.Ytcadbihgfahjjaa.PureLayBack

/- A text's beginnings: their runes are the first ones. -/
import Derived.Test.YtobfoiomjfdjjaaDoorPureKeys
namespace Go.Proofs.YtobfoiomjfdjjaaDoor.PureHead
open Go.RowKit Go.Proofs.YtobfoiomjfdjjaaDoor.Mc Go.Proofs.YtobfoiomjfdjjaaDoor.N Go.Proofs.YtobfoiomjfdjjaaDoor.Plain Go.Proofs.YtobfoiomjfdjjaaDoor.PureRune Go.Proofs.YtobfoiomjfdjjaaDoor.PureKeys
set_option linter.unusedSimpArgs false
set_option linter.unusedVariables false

set_option maxRecDepth 100000 in
set_option maxHeartbeats 4000000 in
theorem decodeN_pre (n m b0 b1 b2 b3 c1 c2 c3 : Nat) (h0 : 1 ≤ m) (hm : m ≤ n) (h1 : 1 < m → c1 = b1) (h2 : 2 < m → c2 = b2) (h3 : 3 < m → c3 = b3) (hw : (Lib.decodeN n b0 b1 b2 b3).2 ≤ m) :
    Lib.decodeN m b0 c1 c2 c3 = Lib.decodeN n b0 b1 b2 b3 := by
  by_cases k3 : 3 < m
  · obtain rfl := h1 (by omega); obtain rfl := h2 (by omega); obtain rfl := h3 k3
    unfold Lib.decodeN
    simp only [show 1 < m by omega, show 2 < m by omega, show 3 < m by omega, show 1 < n by omega, show 2 < n by omega, show 3 < n by omega]
  · by_cases k2 : 2 < m
    · obtain rfl := h1 (by omega); obtain rfl := h2 k2
      unfold Lib.decodeN at hw ⊢
      simp only [show 1 < m by omega, show 2 < m by omega, show ¬ 3 < m by omega, show 1 < n by omega, show 2 < n by omega, true_and, false_and, and_false, if_false] at hw ⊢
      repeat' split
      all_goals first | rfl | (exfalso; omega) | skip
      all_goals (simp_all; try omega)
    · by_cases k1 : 1 < m
      · obtain rfl := h1 k1
        unfold Lib.decodeN at hw ⊢
        simp only [show 1 < m by omega, show ¬ 2 < m by omega, show ¬ 3 < m by omega, show 1 < n by omega, true_and, false_and, and_false, if_false] at hw ⊢
        repeat' split
        all_goals first | rfl | (exfalso; omega) | skip
        all_goals (simp_all; try omega)
      · unfold Lib.decodeN at hw ⊢
        simp only [show ¬ 1 < m by omega, show ¬ 2 < m by omega, show ¬ 3 < m by omega, true_and, false_and, and_false, if_false] at hw ⊢
        repeat' split
        all_goals first | rfl | (exfalso; omega) | skip
        all_goals (simp_all; try omega)

theorem decodeN_le (n b0 b1 b2 b3 : Nat) (hn : 1 ≤ n) : (Lib.decodeN n b0 b1 b2 b3).2 ≤ n := by
  unfold Lib.decodeN
  repeat' split
  all_goals (simp only; omega)
theorem width_le (s : ByteArray) (p : Nat) (h : p < s.size) : p + (Utf8.decode s p).2 ≤ s.size := by
  rw [Lib.decode_at]
  have := decodeN_le (s.size - p) (s.get! p).toNat (s.get! (p + 1)).toNat (s.get! (p + 2)).toNat (s.get! (p + 3)).toNat (by omega)
  omega
theorem pre_size (s : ByteArray) (q : Nat) (h : q ≤ s.size) : (s.extract 0 q).size = q := by simp; omega
theorem pre_get (s : ByteArray) (q j : Nat) (h : q ≤ s.size) (hj : j < q) : (s.extract 0 q).get! j = s.get! j := by
  rw [← Lib.getD_get!', ← Lib.getD_get!', Lib.extract_data]
  simp only [List.getD, List.getElem?_take, List.getElem?_drop, Nat.zero_add, Nat.sub_zero]
  rw [if_pos hj]
theorem decode_head (s : ByteArray) (q p : Nat) (hq : q ≤ s.size) (hp : p < q) (hw : p + (Utf8.decode s p).2 ≤ q) : Utf8.decode (s.extract 0 q) p = Utf8.decode s p := by
  rw [Lib.decode_at] at hw
  rw [Lib.decode_at, Lib.decode_at, pre_size s q hq, pre_get s q p hq hp]
  refine decodeN_pre _ _ _ _ _ _ _ _ _ (by omega) (by omega) (fun h => ?_) (fun h => ?_) (fun h => ?_) (by omega)
  · rw [pre_get s q _ hq (by omega)]
  · rw [pre_get s q _ hq (by omega)]
  · rw [pre_get s q _ hq (by omega)]

/-- how many bytes the first runes have -/
def W (L : List (Nat × Nat)) (j : Nat) : Nat := ((L.take j).map (·.2)).sum
theorem W_zero (L : List (Nat × Nat)) : W L 0 = 0 := by simp [W]
theorem W_nil (j : Nat) : W [] j = 0 := by simp [W]
theorem W_cons (x : Nat × Nat) (L : List (Nat × Nat)) (j : Nat) : W (x :: L) (j + 1) = x.2 + W L j := by simp [W]
theorem W_le {s : ByteArray} : ∀ {p : Nat} {L : List (Nat × Nat)}, Runes s p L → p ≤ s.size → ∀ j, p + W L j ≤ s.size
  | _, _, .nil p h, hp, j => by rw [W_nil]; omega
  | _, _, .cons p h L t, hp, 0 => by rw [W_zero]; omega
  | _, _, .cons p h L t, hp, j + 1 => by
    have := W_le t (width_le s p h) j
    rw [W_cons]; omega
theorem W_all {s : ByteArray} : ∀ {p : Nat} {L : List (Nat × Nat)}, Runes s p L → p ≤ s.size → ∀ j, L.length ≤ j → p + W L j = s.size
  | _, _, .nil p h, hp, j, hj => by rw [W_nil]; omega
  | _, _, .cons p h L t, hp, 0, hj => by simp at hj
  | _, _, .cons p h L t, hp, j + 1, hj => by
    have := W_all t (width_le s p h) j (by simpa using hj)
    rw [W_cons]; omega
theorem runes_take {s : ByteArray} : ∀ {p : Nat} {L : List (Nat × Nat)}, Runes s p L → p ≤ s.size → ∀ (j q : Nat), p + W L j = q → q ≤ s.size → Runes (s.extract 0 q) p (L.take j)
  | _, _, .nil p h, hp, j, q, hj, hq => by
    rw [W_nil] at hj
    rw [List.take_nil]
    exact .nil p (by rw [pre_size s q hq]; omega)
  | _, _, .cons p h L t, hp, 0, q, hj, hq => by
    rw [W_zero] at hj
    rw [List.take_zero]
    exact .nil p (by rw [pre_size s q hq]; omega)
  | _, _, .cons p h L t, hp, j + 1, q, hj, hq => by
    rw [W_cons] at hj
    have hw := Lib.decode_width_pos s p h
    have ht := runes_take t (width_le s p h) j q (by omega) hq
    have he := decode_head s q p hq (by omega) (by omega)
    rw [List.take_succ_cons, ← he]
    exact .cons p (by rw [pre_size s q hq]; omega) _ (by rw [he]; exact ht)
end Go.Proofs.YtobfoiomjfdjjaaDoor.PureHead

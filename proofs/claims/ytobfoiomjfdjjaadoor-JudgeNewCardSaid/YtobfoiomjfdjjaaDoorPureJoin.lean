/- A text behind another one: whole runes stay as they are. -/
import Derived.Test.YtobfoiomjfdjjaaDoorPureHead
namespace Go.Proofs.YtobfoiomjfdjjaaDoor.PureJoin
open Go.RowKit Go.Proofs.YtobfoiomjfdjjaaDoor.Mc Go.Proofs.YtobfoiomjfdjjaaDoor.N Go.Proofs.YtobfoiomjfdjjaaDoor.Plain Go.Proofs.YtobfoiomjfdjjaaDoor.PureRune Go.Proofs.YtobfoiomjfdjjaaDoor.PureKeys Go.Proofs.YtobfoiomjfdjjaaDoor.PureHead
set_option linter.unusedSimpArgs false
set_option linter.unusedVariables false
set_option maxRecDepth 100000 in
set_option maxHeartbeats 4000000 in
theorem decodeN_on (n m b0 b1 b2 b3 c1 c2 c3 : Nat) (h0 : 1 ≤ m) (hm : m ≤ n) (h1 : 1 < m → c1 = b1) (h2 : 2 < m → c2 = b2) (h3 : 3 < m → c3 = b3) (hw : Lib.decodeN m b0 c1 c2 c3 ≠ (65533, 1)) :
    Lib.decodeN n b0 b1 b2 b3 = Lib.decodeN m b0 c1 c2 c3 := by
  by_cases k3 : 3 < m
  · obtain rfl := h1 (by omega); obtain rfl := h2 (by omega); obtain rfl := h3 k3
    unfold Lib.decodeN
    simp only [show 1 < m by omega, show 2 < m by omega, show 3 < m by omega, show 1 < n by omega, show 2 < n by omega, show 3 < n by omega]
  · by_cases k2 : 2 < m
    · obtain rfl := h1 (by omega); obtain rfl := h2 k2
      unfold Lib.decodeN at hw ⊢
      simp only [show 1 < m by omega, show 2 < m by omega, show ¬ 3 < m by omega, show 1 < n by omega, show 2 < n by omega, true_and, false_and, and_false, if_false] at hw ⊢
      repeat' split
      all_goals first | rfl | (exfalso; omega) | skip
      all_goals (simp_all; try omega)
    · by_cases k1 : 1 < m
      · obtain rfl := h1 k1
        unfold Lib.decodeN at hw ⊢
        simp only [show 1 < m by omega, show ¬ 2 < m by omega, show ¬ 3 < m by omega, show 1 < n by omega, true_and, false_and, and_false, if_false] at hw ⊢
        repeat' split
        all_goals first | rfl | (exfalso; omega) | skip
        all_goals (simp_all; try omega)
      · unfold Lib.decodeN at hw ⊢
        simp only [show ¬ 1 < m by omega, show ¬ 2 < m by omega, show ¬ 3 < m by omega, true_and, false_and, and_false, if_false] at hw ⊢
        repeat' split
        all_goals first | rfl | (exfalso; omega) | skip
        all_goals (simp_all; try omega)

theorem join_left (a b : ByteArray) (j : Nat) (h : j < a.size) : (a ++ b).get! j = a.get! j := by
  rw [← Lib.getD_get!', ← Lib.getD_get!']
  have : (a ++ b).data.toList = a.data.toList ++ b.data.toList := by simp
  rw [this]
  simp only [List.getD]
  rw [List.getElem?_append_left (by rw [← Lib.size_eq]; exact h)]
theorem join_right (a b : ByteArray) (j : Nat) : (a ++ b).get! (a.size + j) = b.get! j := by
  rw [← Lib.getD_get!', ← Lib.getD_get!']
  have : (a ++ b).data.toList = a.data.toList ++ b.data.toList := by simp
  rw [this]
  simp only [List.getD]
  rw [List.getElem?_append_right (by rw [← Lib.size_eq]; omega), ← Lib.size_eq, Nat.add_sub_cancel_left]
theorem join_size (a b : ByteArray) : (a ++ b).size = a.size + b.size := by simp
theorem decode_left (a b : ByteArray) (p : Nat) (h : p < a.size) (hw : Utf8.decode a p ≠ (65533, 1)) : Utf8.decode (a ++ b) p = Utf8.decode a p := by
  rw [Lib.decode_at] at hw
  rw [Lib.decode_at, Lib.decode_at, join_size, join_left a b p h]
  refine decodeN_on _ _ _ _ _ _ _ _ _ (by omega) (by omega) (fun h => ?_) (fun h => ?_) (fun h => ?_) hw
  · rw [join_left a b _ (by omega)]
  · rw [join_left a b _ (by omega)]
  · rw [join_left a b _ (by omega)]
theorem decode_right (a b : ByteArray) (p : Nat) : Utf8.decode (a ++ b) (a.size + p) = Utf8.decode b p := by
  rw [Lib.decode_at, Lib.decode_at, join_size, join_right, Nat.add_assoc, Nat.add_assoc, Nat.add_assoc, join_right, join_right, join_right]
  congr 1; omega
theorem runes_right (a : ByteArray) {b : ByteArray} : ∀ {p : Nat} {M : List (Nat × Nat)}, Runes b p M → Runes (a ++ b) (a.size + p) M
  | _, _, .nil p h => .nil _ (by rw [join_size]; omega)
  | _, _, .cons p h M t => by
    have ht := runes_right a t
    rw [← decode_right a b p]
    exact .cons _ (by rw [join_size]; omega) _ (by rw [decode_right, Nat.add_assoc]; exact ht)
theorem runes_join {a b : ByteArray} {M : List (Nat × Nat)} (hM : Runes b 0 M) : ∀ {p : Nat} {L : List (Nat × Nat)}, Runes a p L → p ≤ a.size → (∀ x ∈ L, x ≠ (65533, 1)) → Runes (a ++ b) p (L ++ M)
  | _, _, .nil p h, hp, _ => by
    have : p = a.size := by omega
    subst this
    exact runes_right a hM
  | _, _, .cons p h L t, hp, hx => by
    have hd := decode_left a b p h (hx _ (by simp))
    have ht := runes_join hM t (width_le a p h) (fun x hx' => hx x (by simp [hx']))
    rw [List.cons_append, ← hd]
    exact .cons p (by rw [join_size]; omega) _ (by rw [hd]; exact ht)
end Go.Proofs.YtobfoiomjfdjjaaDoor.PureJoin

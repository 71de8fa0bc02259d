/- Plain law: what reading a number tells of the bytes, and the bytes of reading. -/
import Derived.Test.YtcadbihgfahjjaaPureGet
namespace Go.Proofs.Ytcadbihgfahjjaa.PureInv
open Go.RowKit Go.Proofs.Ytcadbihgfahjjaa.Mc Go.Proofs.Ytcadbihgfahjjaa.N Go.Proofs.Ytcadbihgfahjjaa.MLay Go.Proofs.Ytcadbihgfahjjaa.PureLay Go.Proofs.Ytcadbihgfahjjaa.PureGet

theorem pow7 (i : Nat) : (2 : Int) ^ (7 * (i + 1)) = 128 * 2 ^ (7 * i) := by rw [Nat.mul_add, Int.pow_add]; omega

theorem nI_pos (v : Nat) : 0 < (nI v).length := by
  by_cases h : v < 128
  · rw [nI_small h]; simp
  · rw [nI_big h]; simp

/-- what is read are a number's bytes -/
theorem gn_inv (b : Int → Int) (size : Int) (hb : ∀ p, 0 ≤ b p ∧ b p ≤ 255) : ∀ (n i : Nat) (p v w q : Int), gn n b size p i v = (w, q, 0) →
    ∃ c : Nat, w = v + c * 2 ^ (7 * i) ∧ q = p + (nI c).length ∧ q ≤ size ∧ (∀ (j : Nat) (x : Int), (nI c)[j]? = some x → b (p + j) = x) ∧ (0 < i → 0 < c)
  | 0, i, p, v, w, q, h => by simp [gn] at h
  | n + 1, i, p, v, w, q, h => by
    unfold gn at h
    by_cases c1 : p ≥ size
    · rw [if_pos c1] at h; simp at h
    rw [if_neg c1] at h
    by_cases c2 : ((i : Int) = 4 ∧ b p > 15) ∨ ((i : Int) > 0 ∧ b p = 0)
    · rw [if_pos c2] at h; simp at h
    rw [if_neg c2] at h
    have hbp := hb p
    have ei : ((i : Int)).toNat = i := by omega
    rw [ei] at h
    obtain ⟨d, hd⟩ := Int.eq_ofNat_of_zero_le hbp.1
    by_cases c3 : b p < 128
    · rw [if_pos c3] at h
      simp only [Prod.mk.injEq, and_true] at h
      obtain ⟨rfl, rfl⟩ := h
      have hd1 : d < 128 := by omega
      refine ⟨d, ?_, ?_, by omega, ?_, ?_⟩
      · rw [hd]; congr 2; omega
      · rw [nI_small hd1]; simp
      · intro j x hj
        rw [nI_small hd1] at hj
        cases j with
        | zero => simp at hj; rw [← hj, ← hd]; simp
        | succ j => simp at hj
      · intro hi
        rcases Nat.eq_zero_or_pos d with h0 | h0
        · exact absurd (Or.inr ⟨by omega, by omega⟩) c2
        · exact h0
    · rw [if_neg c3] at h
      rw [show ((i : Int) + 1) = ((i + 1 : Nat) : Int) from by omega] at h
      obtain ⟨c, hw, hq, hqs, hx, hc⟩ := gn_inv b size hb n (i + 1) (p + 1) _ w q h
      have hc' := hc (by omega)
      have hbig : ¬ (d % 128 + 128 * c) < 128 := by omega
      have e1 : (d % 128 + 128 * c) / 128 = c := by omega
      refine ⟨d % 128 + 128 * c, ?_, ?_, hqs, ?_, fun _ => by omega⟩
      · rw [hw, hd, pow7]
        rw [Int.natCast_add, Int.natCast_mul, Int.natCast_emod]
        generalize (2 : Int) ^ (7 * i) = t
        rw [Int.add_mul, Int.add_assoc]
        congr 2
        rw [← Int.mul_assoc]
        congr 1
        exact Int.mul_comm _ _
      · rw [nI_big hbig, e1, hq]; simp; omega
      · intro j x hj
        rw [nI_big hbig, e1] at hj
        cases j with
        | zero =>
          simp at hj
          rw [← hj, Int.natCast_zero, Int.add_zero, hd]
          omega
        | succ j =>
          have := hx j x (by simpa using hj)
          rw [← this]
          congr 1
          omega

/-- a number's bytes are read -/
theorem gn_fwd (b : Int → Int) (size : Int) (_ : ∀ p, 0 ≤ b p ∧ b p ≤ 255) : ∀ (n i c : Nat) (p v : Int), i + n = 5 → (c : Int) * 2 ^ (7 * i) < 4294967296 → (0 < i → 0 < c) → (∀ (j : Nat) (x : Int), (nI c)[j]? = some x → b (p + j) = x) →
    p + (nI c).length ≤ size → gn n b size p i v = (v + c * 2 ^ (7 * i), p + (nI c).length, 0) := by
  intro n
  induction n with
  | zero =>
    intro i c p v hi hc h0 hx hs
    obtain rfl : i = 5 := by omega
    have := h0 (by omega)
    exfalso
    have : (1 : Int) ≤ c := by omega
    simp only [show (2 : Int) ^ (7 * 5) = 34359738368 from by decide] at hc
    omega
  | succ n ih =>
    intro i c p v hi hc h0 hx hs
    have ei : ((i : Int)).toNat = i := by omega
    have hl := nI_pos c
    unfold gn
    rw [if_neg (by omega), ei]
    by_cases h : c < 128
    · have hbp : b p = c := by
        have := hx 0 (c : Int) (by rw [nI_small h]; rfl)
        simpa using this
      rw [nI_small h]
      have h4 : ¬ (((i : Int) = 4 ∧ b p > 15) ∨ ((i : Int) > 0 ∧ b p = 0)) := by
        rintro (⟨e, g⟩ | ⟨e, g⟩)
        · obtain rfl : i = 4 := by omega
          simp only [show (2 : Int) ^ (7 * 4) = 268435456 from by decide] at hc
          omega
        · have := h0 (by omega); omega
      rw [if_neg h4, if_pos (by omega), hbp]
      have : (c : Int) % 128 = c := by omega
      rw [this]; rfl
    · have hbp : b p = (c : Int) % 128 + 128 := by
        have := hx 0 _ (by rw [nI_big h]; rfl)
        simpa using this
      have hc' : ((c / 128 : Nat) : Int) * 2 ^ (7 * (i + 1)) < 4294967296 := by
        rw [pow7]
        have hp : (0 : Int) < 2 ^ (7 * i) := Int.pow_pos (by decide)
        have : ((c / 128 : Nat) : Int) * 128 ≤ c := by omega
        have := Int.mul_le_mul_of_nonneg_right this (Int.le_of_lt hp)
        rw [Int.mul_assoc] at this
        omega
      have h4 : ¬ (((i : Int) = 4 ∧ b p > 15) ∨ ((i : Int) > 0 ∧ b p = 0)) := by
        rintro (⟨e, g⟩ | ⟨e, g⟩)
        · obtain rfl : i = 4 := by omega
          simp only [show (2 : Int) ^ (7 * 4) = 268435456 from by decide] at hc
          omega
        · omega
      rw [if_neg h4, if_neg (by omega), show ((i : Int) + 1) = ((i + 1 : Nat) : Int) from by omega, nI_big h]
      rw [ih (i + 1) (c / 128) (p + 1) _ (by omega) hc' (fun _ => by omega) (fun j x hj => by
        have := hx (j + 1) x (by rw [nI_big h]; simpa using hj)
        rw [← this]; congr 1; omega) (by rw [nI_big h] at hs; simp at hs; omega)]
      simp only [Prod.mk.injEq, and_true]
      refine ⟨?_, by simp; omega⟩
      rw [hbp, pow7]
      have e : ((c : Int) % 128 + 128) % 128 = (c : Int) % 128 := by omega
      rw [e]
      generalize (2 : Int) ^ (7 * i) = t
      have : (c : Int) = c % 128 + 128 * ((c / 128 : Nat) : Int) := by omega
      rw [Int.add_assoc]
      congr 1
      conv => rhs; rw [this, Int.add_mul]
      congr 1
      rw [← Int.mul_assoc]
      congr 1
      exact Int.mul_comm _ _
  

/-- cut off -/
theorem gn_cut (b : Int → Int) (size : Int) (_ : ∀ p, 0 ≤ b p ∧ b p ≤ 255) : ∀ (n i c : Nat) (p v : Int), i + n = 5 → (c : Int) * 2 ^ (7 * i) < 4294967296 → (0 < i → 0 < c) → (∀ (j : Nat) (x : Int), (nI c)[j]? = some x → p + j < size → b (p + j) = x) →
    size < p + (nI c).length → p ≤ size → gn n b size p i v = (0, 0, 3) := by
  intro n
  induction n with
  | zero =>
    intro i c p v hi hc h0 hx hs hp
    obtain rfl : i = 5 := by omega
    have := h0 (by omega)
    exfalso
    have : (1 : Int) ≤ c := by omega
    simp only [show (2 : Int) ^ (7 * 5) = 34359738368 from by decide] at hc
    omega
  | succ n ih =>
    intro i c p v hi hc h0 hx hs hp
    have ei : ((i : Int)).toNat = i := by omega
    unfold gn
    by_cases c1 : p ≥ size
    · rw [if_pos c1]
    rw [if_neg c1, ei]
    by_cases h : c < 128
    · exfalso; rw [nI_small h] at hs; simp at hs; omega
    · have hbp : b p = (c : Int) % 128 + 128 := by
        have := hx 0 _ (by rw [nI_big h]; rfl) (by omega)
        simpa using this
      have hc' : ((c / 128 : Nat) : Int) * 2 ^ (7 * (i + 1)) < 4294967296 := by
        rw [pow7]
        have hp : (0 : Int) < 2 ^ (7 * i) := Int.pow_pos (by decide)
        have : ((c / 128 : Nat) : Int) * 128 ≤ c := by omega
        have := Int.mul_le_mul_of_nonneg_right this (Int.le_of_lt hp)
        rw [Int.mul_assoc] at this
        omega
      have h4 : ¬ (((i : Int) = 4 ∧ b p > 15) ∨ ((i : Int) > 0 ∧ b p = 0)) := by
        rintro (⟨e, g⟩ | ⟨e, g⟩)
        · obtain rfl : i = 4 := by omega
          simp only [show (2 : Int) ^ (7 * 4) = 268435456 from by decide] at hc
          omega
        · omega
      rw [if_neg h4, if_neg (by omega), show ((i : Int) + 1) = ((i + 1 : Nat) : Int) from by omega]
      exact ih (i + 1) (c / 128) (p + 1) _ (by omega) hc' (fun _ => by omega) (fun j x hj hlt => by
        have := hx (j + 1) x (by rw [nI_big h]; simpa using hj) (by omega)
        rw [← this]; congr 1; omega) (by rw [nI_big h] at hs; simp at hs; omega) (by omega)

end Go.Proofs.Ytcadbihgfahjjaa.PureInv

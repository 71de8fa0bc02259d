/- Plain mathematics of numbers as bytes (chapter 4): 'numL' are a number's bytes, 'gn' reads a number at a place. No program in sight. -/
import Derived.Laws.Entries
import Derived.Laws.BytesArg
import Derived.RowKit
namespace Go.Proofs.YtlnadpijicfceaaDoor.MLay
open Go.RowKit

/-- a number's bytes, seven binary digits in each -/
def numL (v : Nat) : List Nat := if h : v < 128 then [v] else (v % 128 + 128) :: numL (v / 128)
termination_by v
decreasing_by omega

theorem numL_small {v : Nat} (h : v < 128) : numL v = [v] := by rw [numL, dif_pos h]
theorem numL_big {v : Nat} (h : ¬ v < 128) : numL v = (v % 128 + 128) :: numL (v / 128) := by rw [numL, dif_neg h]

theorem numL_length : ∀ (n v : Nat), v < 128 ^ (n + 1) → 1 ≤ (numL v).length ∧ (numL v).length ≤ n + 1
  | 0, v, h => by rw [numL_small (by simpa using h)]; simp
  | n + 1, v, h => by
    by_cases c : v < 128
    · rw [numL_small c]; simp
    · rw [numL_big c]
      have := numL_length n (v / 128) (by rw [Nat.div_lt_iff_lt_mul (by decide)]; rw [Nat.pow_succ] at h; exact h)
      simp; omega

theorem or_low : ∀ r : Fin 256, Go.bits .or .u8 ((r : Nat) : Int) 128 = ((r : Nat) : Int) % 128 + 128 := by decide +kernel
theorem and_low : ∀ r : Fin 256, Go.bits .and .u8 ((r : Nat) : Int) 127 = ((r : Nat) : Int) % 128 := by decide +kernel
theorem or_byte (r : Int) (h0 : 0 ≤ r) (h1 : r < 256) : Go.bits .or .u8 r 128 = r % 128 + 128 := by
  have := or_low ⟨r.toNat, by omega⟩
  have e : ((r.toNat : Nat) : Int) = r := by omega
  simpa [e] using this
theorem and_byte (r : Int) (h0 : 0 ≤ r) (h1 : r < 256) : Go.bits .and .u8 r 127 = r % 128 := by
  have := and_low ⟨r.toNat, by omega⟩
  have e : ((r.toNat : Nat) : Int) = r := by omega
  simpa [e] using this

theorem wrap_u32 (x : Int) : IntKind.u32.wrap x = x % 4294967296 := rfl
theorem wrap_u64 (x : Int) : IntKind.u64.wrap x = x % 18446744073709551616 := rfl
theorem bits_or_u32 (x y : Nat) (hx : x < 2 ^ 32) (hy : y < 2 ^ 32) : Go.bits .or .u32 (x : Int) (y : Int) = ((x ||| y : Nat) : Int) := by
  have hor : x ||| y < 2 ^ 32 := Nat.or_lt_two_pow hx hy
  unfold Go.bits IntKind.wrap
  simp only [IntKind.signed]
  have : (BitVec.ofInt (IntKind.u32.bits) (x : Int) ||| BitVec.ofInt (IntKind.u32.bits) (y : Int)).toNat = x ||| y := by
    show (BitVec.ofNat 32 x ||| BitVec.ofNat 32 y).toNat = x ||| y
    rw [BitVec.toNat_or, BitVec.toNat_ofNat, BitVec.toNat_ofNat, Nat.mod_eq_of_lt hx, Nat.mod_eq_of_lt hy]
  rw [this]
  simp only [IntKind.bits]
  simp
  omega

/-- the digits that come next -/
theorem or_add (v c i : Nat) (hv : v < 2 ^ (7 * i)) : (v ||| (c * 2 ^ (7 * i))) = v + c * 2 ^ (7 * i) := by
  rw [Nat.or_comm, Nat.mul_comm c]
  rw [← Nat.two_pow_add_eq_or_of_lt hv]
  omega

/-- a number at a place p, behind i bytes of it that came to v; n rounds are left -/
def gn : Nat → (Int → Int) → Int → Int → Int → Int → Int × Int × Int
  | 0, _, _, _, _, _ => (0, 0, 2)
  | n + 1, b, size, p, i, v =>
    if p ≥ size then (0, 0, 3)
    else if (i = 4 ∧ b p > 15) ∨ (i > 0 ∧ b p = 0) then (0, 0, 2)
    else if b p < 128 then (v + (b p % 128) * 2 ^ (7 * i.toNat), p + 1, 0)
    else gn n b size (p + 1) (i + 1) (v + (b p % 128) * 2 ^ (7 * i.toNat))

/-- a number at a place of bytes -/
def getNum (b : Int → Int) (size at_ : Int) : Int × Int × Int := if at_ < 0 ∨ at_ > size then (0, 0, 1) else gn 5 b size at_ 0 0

/-- what is told lies in its bounds -/
theorem gn_bound (b : Int → Int) (size : Int) (hb : ∀ p, 0 ≤ b p ∧ b p ≤ 255) : ∀ (n : Nat) (p v : Int) (i : Nat), 0 ≤ p → i + n = 5 → 0 ≤ v → v < 2 ^ (7 * i) →
    0 ≤ (gn n b size p i v).1 ∧ (gn n b size p i v).1 < 4294967296 ∧ 0 ≤ (gn n b size p i v).2.1 ∧ 0 ≤ (gn n b size p i v).2.2 ∧ ((gn n b size p i v).2.2 = 0 → p < (gn n b size p i v).2.1 ∧ (gn n b size p i v).2.1 ≤ size)
  | 0, p, v, i, _, _, _, _ => by simp [gn]
  | n + 1, p, v, i, hp, hi, hv0, hv => by
    unfold gn
    by_cases c1 : p ≥ size
    · rw [if_pos c1]; simp
    rw [if_neg c1]
    by_cases c2 : ((i : Int) = 4 ∧ b p > 15) ∨ ((i : Int) > 0 ∧ b p = 0)
    · rw [if_pos c2]; simp
    rw [if_neg c2]
    have hbp := hb p
    have ei : ((i : Int)).toNat = i := by omega
    rw [ei]
    have hv' : v + (b p % 128) * 2 ^ (7 * i) < 2 ^ (7 * (i + 1)) := by
      have e : (2 : Int) ^ (7 * (i + 1)) = 128 * 2 ^ (7 * i) := by rw [Nat.mul_add, Int.pow_add]; omega
      rw [e]
      have h1 : b p % 128 ≤ 127 := by omega
      have h2 : (b p % 128) * 2 ^ (7 * i) ≤ 127 * 2 ^ (7 * i) := Int.mul_le_mul_of_nonneg_right h1 (Int.le_of_lt (Int.pow_pos (by decide)))
      omega
    have hv0' : 0 ≤ v + (b p % 128) * 2 ^ (7 * i) := by
      have : 0 ≤ (b p % 128) * 2 ^ (7 * i) := Int.mul_nonneg (by omega) (Int.le_of_lt (Int.pow_pos (by decide)))
      omega
    by_cases c3 : b p < 128
    · rw [if_pos c3]
      refine ⟨hv0', ?_, by simp; omega, by simp, fun _ => ⟨by simp; omega, by simp; omega⟩⟩
      by_cases c4 : i ≤ 3
      · have : (2 : Int) ^ (7 * (i + 1)) ≤ 2 ^ 28 := by
          have h4 : (2 : Nat) ^ (7 * (i + 1)) ≤ 2 ^ 28 := Nat.pow_le_pow_right (by decide) (by omega)
          exact_mod_cast h4
        simp only; omega
      · obtain rfl : i = 4 := by omega
        have c5 : b p ≤ 15 := by
          rcases Int.lt_or_le 15 (b p) with h | h
          · exact absurd (Or.inl ⟨rfl, h⟩) c2
          · exact h
        simp only at hv ⊢
        omega
    · rw [if_neg c3]
      have := gn_bound b size hb n (p + 1) (v + (b p % 128) * 2 ^ (7 * i)) (i + 1) (by omega) (by omega) hv0' hv'
      rw [show ((i : Int) + 1) = ((i + 1 : Nat) : Int) from by omega]
      refine ⟨this.1, this.2.1, this.2.2.1, this.2.2.2.1, fun h => ?_⟩
      have := this.2.2.2.2 h
      omega
end Go.Proofs.YtlnadpijicfceaaDoor.MLay

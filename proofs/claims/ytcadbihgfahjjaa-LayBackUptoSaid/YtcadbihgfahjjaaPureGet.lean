/- Plain law: reading a number is 'getNum'. -/
import Derived.Test.YtcadbihgfahjjaaPureLay
namespace Go.Proofs.Ytcadbihgfahjjaa.PureGet
open Go.RowKit Go.Proofs.Ytcadbihgfahjjaa.Mc Go.Proofs.Ytcadbihgfahjjaa.N Go.Proofs.Ytcadbihgfahjjaa.MLay Go.Proofs.Ytcadbihgfahjjaa.PureLay

theorem bt_range (x : ByteArray) (p : Int) : 0 ≤ bt x p ∧ bt x p ≤ 255 := by
  unfold bt
  split
  · rename_i h
    have := (x[p.toNat]'h).toNat_lt
    omega
  · omega

theorem w64 (x : Int) (h0 : -9223372036854775808 ≤ x) (h1 : x < 9223372036854775808) : IntKind.wrap .i64 x = x := by
  unfold IntKind.wrap
  simp only [IntKind.signed, IntKind.bits]
  simp
  omega

/-- the next digit, as the program's bits tell it -/
theorem digit (c v : Int) (i : Nat) (hi : i ≤ 4) (h0 : 0 ≤ c) (h1 : c ≤ 255) (hc : i = 4 → c ≤ 15) (hv0 : 0 ≤ v) (hv : v < 2 ^ (7 * i)) :
    Go.bits .or .u32 v (IntKind.wrap .u32 ((c % 128) * 2 ^ min (7 * (i : Int)).toNat (IntKind.bits .u32))) = v + (c % 128) * 2 ^ (7 * i) := by
  obtain ⟨v, rfl⟩ := Int.eq_ofNat_of_zero_le hv0
  obtain ⟨c, rfl⟩ := Int.eq_ofNat_of_zero_le h0
  have hv' : v < 2 ^ (7 * i) := by exact_mod_cast hv
  have hm : IntKind.wrap .u32 (((c : Int) % 128) * 2 ^ min (7 * (i : Int)).toNat (IntKind.bits .u32)) = (((c % 128) * 2 ^ (7 * i) : Nat) : Int) := by
    rw [wrap_u32, show min (7 * (i : Int)).toNat IntKind.u32.bits = 7 * i from by simp only [IntKind.bits]; omega]
    have hb : (c % 128) * 2 ^ (7 * i) < 4294967296 := by
      by_cases e : i = 4
      · subst e; have := hc rfl; simp; omega
      · have h2 : (2 : Nat) ^ (7 * i) ≤ 2 ^ 21 := Nat.pow_le_pow_right (by decide) (by omega)
        have h3 : (c % 128) * 2 ^ (7 * i) ≤ 127 * 2 ^ 21 := Nat.mul_le_mul (by omega) h2
        omega
    have e : (c : Int) % 128 * 2 ^ (7 * i) = (((c % 128) * 2 ^ (7 * i) : Nat) : Int) := by rw [Int.natCast_mul, Int.natCast_emod, Int.natCast_pow]; rfl
    rw [e]
    exact Int.emod_eq_of_lt (Int.natCast_nonneg _) (Int.ofNat_lt.2 hb)
  rw [hm, bits_or_u32, or_add v (c % 128) i hv']
  · rw [Int.natCast_add, Int.natCast_mul, Int.natCast_emod, Int.natCast_pow]; rfl
  · exact Nat.lt_of_lt_of_le hv' (Nat.pow_le_pow_right (by decide) (by omega))
  · by_cases e : i = 4
    · subst e; have := hc rfl; simp; omega
    · have h2 : (2 : Nat) ^ (7 * i) ≤ 2 ^ 21 := Nat.pow_le_pow_right (by decide) (by omega)
      have h3 : (c % 128) * 2 ^ (7 * i) ≤ 127 * 2 ^ 21 := Nat.mul_le_mul (by omega) h2
      omega

theorem next_lt (c v : Int) (i : Nat) (_ : 0 ≤ c) (hv0 : 0 ≤ v) (hv : v < 2 ^ (7 * i)) : 0 ≤ v + (c % 128) * 2 ^ (7 * i) ∧ v + (c % 128) * 2 ^ (7 * i) < 2 ^ (7 * (i + 1)) := by
  have e : (2 : Int) ^ (7 * (i + 1)) = 128 * 2 ^ (7 * i) := by rw [Nat.mul_add, Int.pow_add]; omega
  rw [e]
  have h2 : (c % 128) * 2 ^ (7 * i) ≤ 127 * 2 ^ (7 * i) := Int.mul_le_mul_of_nonneg_right (by omega) (Int.le_of_lt (Int.pow_pos (by decide)))
  have h3 : 0 ≤ (c % 128) * 2 ^ (7 * i) := Int.mul_nonneg (by omega) (Int.le_of_lt (Int.pow_pos (by decide)))
  omega

def out14 (k : Nat) (z : Sum (Int × Int × Int) Unit) : Option (Int × Int × Int) := match z with
  | .inl y => some (y.1, y.2.1, y.2.2)
  | .inr y => F14_2 k y

theorem cond_d {α : Type} (p : Prop) [Decidable p] (a b : α) : cond (decide p) a b = if p then a else b := by by_cases h : p <;> simp [h]
theorem cond_b {α : Type} (p : Bool) (a b : α) : cond p a b = if p = true then a else b := by cases p <;> rfl

theorem lay_loop (k : Nat) (b : ByteArray) (at_ : Int) (ha : 0 ≤ at_) (hb : at_ ≤ b.size) (hsz : b.size ≤ 281474976710656) : ∀ (n i m : Nat) (v : Int), i + n = 5 → n < m → 0 ≤ v → v < 2 ^ (7 * i) →
    (F14_3 k b at_ m v i).bind (out14 k) = some (gn n (bt b) b.size (at_ + i) i v)
  | 0, i, m + 1, v, hi, hm, _, _ => by
    obtain rfl : i = 5 := by omega
    unfold F14_3
    simp [gn, out14, F14_2]
  | n + 1, i, m + 1, v, hi, hm, hv0, hv => by
    have hw : IntKind.wrap .i64 (at_ + i) = at_ + i := w64 _ (by omega) (by omega)
    have hr := bt_range b (at_ + i)
    unfold gn
    unfold F14_3
    rw [cond_d, if_pos (by omega), hw]
    by_cases c1 : at_ + i ≥ b.size
    · rw [if_pos c1, cond_d, if_pos c1]; rfl
    rw [if_neg c1, cond_d, if_neg c1, grd_t (by simp; omega)]
    have hj : ∀ q : Bool, q = decide (((i : Int) = 4 ∧ bt b (at_ + i) > 15) ∨ ((i : Int) > 0 ∧ bt b (at_ + i) = 0)) →
        (F14_4 k (F14_3 k b at_ m) b at_ v i q).bind (out14 k) = some (if ((i : Int) = 4 ∧ bt b (at_ + i) > 15) ∨ ((i : Int) > 0 ∧ bt b (at_ + i) = 0) then (0, 0, 2)
          else if bt b (at_ + i) < 128 then (v + (bt b (at_ + i) % 128) * 2 ^ (7 * (i : Int).toNat), at_ + i + 1, 0) else gn n (bt b) b.size (at_ + i + 1) (i + 1) (v + (bt b (at_ + i) % 128) * 2 ^ (7 * (i : Int).toNat))) := by
      rintro q rfl
      unfold F14_4
      by_cases c2 : ((i : Int) = 4 ∧ bt b (at_ + i) > 15) ∨ ((i : Int) > 0 ∧ bt b (at_ + i) = 0)
      · rw [decide_eq_true c2, cond_true, if_pos c2]; rfl
      rw [decide_eq_false c2, cond_false, if_neg c2]
      have hd := digit (bt b (at_ + i)) v i (by omega) hr.1 hr.2 (fun e => by
        rcases Int.lt_or_le 15 (bt b (at_ + i)) with h | h
        · exact absurd (Or.inl ⟨by omega, h⟩) c2
        · exact h) hv0 hv
      have hand := and_byte (bt b (at_ + i)) hr.1 (by omega)
      have h7 : IntKind.wrap .i64 (7 * (i : Int)) = 7 * i := w64 _ (by omega) (by omega)
      have hm32 : IntKind.wrap .u32 (bt b (at_ + i) % 128) = bt b (at_ + i) % 128 := by rw [wrap_u32]; omega
      have ei : ((i : Int)).toNat = i := by omega
      rw [ei, h7, grd_t (by simp; omega), hw, hand, hm32, hd]
      unfold bnd
      dsimp only
      rw [cond_d]
      by_cases c3 : bt b (at_ + i) < 128
      · rw [if_pos c3, if_pos c3, w64 _ (by omega) (by omega)]; rfl
      · rw [if_neg c3, if_neg c3, w64 _ (by omega) (by omega)]
        have ih := lay_loop k b at_ ha hb hsz n (i + 1) m (v + (bt b (at_ + i) % 128) * 2 ^ (7 * i)) (by omega) (by omega) (next_lt _ v i hr.1 hv0 hv).1 (next_lt _ v i hr.1 hv0 hv).2
        rw [show at_ + ((i + 1 : Nat) : Int) = at_ + i + 1 from by omega, show ((i + 1 : Nat) : Int) = (i : Int) + 1 from by omega] at ih
        exact ih
    rw [cond_b]
    by_cases e4 : (i : Int) = 4
    · rw [if_pos (by simpa using e4), cond_d]
      by_cases c15 : (15 : Int) < bt b (at_ + i)
      · rw [if_pos c15]
        exact hj _ (decide_eq_true (Or.inl ⟨e4, c15⟩)).symm
      · rw [if_neg c15, cond_d, if_pos (by omega)]
        refine hj _ ?_
        rw [Bool.eq_iff_iff]; simp; omega
    · rw [if_neg (by simpa using e4), cond_d]
      by_cases c0 : (0 : Int) < i
      · rw [if_pos c0]
        refine hj _ ?_
        rw [Bool.eq_iff_iff]; simp; omega
      · rw [if_neg c0]
        refine hj _ ?_
        rw [Bool.eq_iff_iff]; simp; omega

theorem get14 {k : Nat} (hk : 6 ≤ k) (b : ByteArray) (at_ : Int) (hsz : b.size ≤ 281474976710656) : F14 k b at_ = some (getNum (bt b) b.size at_) := by
  unfold getNum F14
  rw [cond_d]
  by_cases c1 : at_ < 0
  · rw [if_pos c1, if_pos (Or.inl c1)]; rfl
  rw [if_neg c1]
  unfold F14_1
  rw [cond_d]
  by_cases c2 : (b.size : Int) < at_
  · rw [if_pos c2, if_pos (Or.inr c2)]
  · rw [if_neg c2, if_neg (by omega)]
    have := lay_loop k b at_ (by omega) (by omega) hsz 5 0 k 0 (by omega) (by omega) (by omega) (by simp)
    simp only [Int.natCast_zero, Int.add_zero] at this
    rw [← this]
    rfl
end Go.Proofs.Ytcadbihgfahjjaa.PureGet

/- The printed GetNum of the program (and of the reference, where the law reaches it) tell what MLay.getNum says. -/
import Derived.Test.YtcadbihgfahjjaaMLay
import Derived.Test.YtcadbihgfahjjaaPLayTextsx2
namespace Go.Proofs.Ytcadbihgfahjjaa.KLayTexts
open Go.RowKit Go.Proofs.Ytcadbihgfahjjaa.PLayTexts Go.Proofs.Ytcadbihgfahjjaa.MLay Go.Proofs.YtcadbihgfahjjaaW.PrintWords Go.Proofs.YtcadbihgfahjjaaW.PrintLast Go.Proofs.YtcadbihgfahjjaaW.PrintMore

theorem w64 (x : Int) (h0 : -9223372036854775808 ≤ x) (h1 : x < 9223372036854775808) : wrap64 x = x := by unfold wrap64; omega

/-- the next digit, as the program's bits tell it -/
theorem digit (c v : Int) (i : Nat) (hi : i ≤ 4) (h0 : 0 ≤ c) (h1 : c ≤ 255) (hc : i = 4 → c ≤ 15) (hv0 : 0 ≤ v) (hv : v < 2 ^ (7 * i)) (y : Int) (hy : y = 7 * i) :
    Go.bits .or .u32 v (shl .u32 (c % 128) y) = v + (c % 128) * 2 ^ (7 * i) := by
  subst hy
  obtain ⟨v, rfl⟩ := Int.eq_ofNat_of_zero_le hv0
  obtain ⟨c, rfl⟩ := Int.eq_ofNat_of_zero_le h0
  have hv' : v < 2 ^ (7 * i) := by exact_mod_cast hv
  have hm : shl .u32 ((c : Int) % 128) (7 * (i : Int)) = (((c % 128) * 2 ^ (7 * i) : Nat) : Int) := by
    unfold shl
    rw [wrap_u32, show min (7 * (i : Int)).toNat IntKind.u32.bits = 7 * i from by simp only [IntKind.bits]; omega]
    have hb : (c % 128) * 2 ^ (7 * i) < 4294967296 := by
      by_cases e : i = 4
      · subst e; have := hc rfl; simp; omega
      · have h2 : (2 : Nat) ^ (7 * i) ≤ 2 ^ 21 := Nat.pow_le_pow_right (by decide) (by omega)
        have h3 : (c % 128) * 2 ^ (7 * i) ≤ 127 * 2 ^ 21 := Nat.mul_le_mul (by omega) h2
        omega
    have e : (c : Int) % 128 * 2 ^ (7 * i) = (((c % 128) * 2 ^ (7 * i) : Nat) : Int) := by rw [Int.natCast_mul, Int.natCast_emod, Int.natCast_pow]; rfl
    rw [e]
    exact Int.emod_eq_of_lt (Int.natCast_nonneg _) (Int.ofNat_lt.2 hb)
  rw [hm, bits_or_u32, or_add v (c % 128) i hv']
  · rw [Int.natCast_add, Int.natCast_mul, Int.natCast_emod, Int.natCast_pow]; rfl
  · exact Nat.lt_of_lt_of_le hv' (Nat.pow_le_pow_right (by decide) (by omega))
  · by_cases e : i = 4
    · subst e; have := hc rfl; simp; omega
    · have h2 : (2 : Nat) ^ (7 * i) ≤ 2 ^ 21 := Nat.pow_le_pow_right (by decide) (by omega)
      have h3 : (c % 128) * 2 ^ (7 * i) ≤ 127 * 2 ^ 21 := Nat.mul_le_mul (by omega) h2
      omega

theorem next_lt (c v : Int) (i : Nat) (_ : 0 ≤ c) (hv0 : 0 ≤ v) (hv : v < 2 ^ (7 * i)) : 0 ≤ v + (c % 128) * 2 ^ (7 * i) ∧ v + (c % 128) * 2 ^ (7 * i) < 2 ^ (7 * (i + 1)) := by
  have e : (2 : Int) ^ (7 * (i + 1)) = 128 * 2 ^ (7 * i) := by rw [Nat.mul_add, Int.pow_add]; omega
  rw [e]
  have h2 : (c % 128) * 2 ^ (7 * i) ≤ 127 * 2 ^ (7 * i) := Int.mul_le_mul_of_nonneg_right (by omega) (Int.le_of_lt (Int.pow_pos (by decide)))
  have h3 : 0 ≤ (c % 128) * 2 ^ (7 * i) := Int.mul_nonneg (by omega) (Int.le_of_lt (Int.pow_pos (by decide)))
  omega

theorem lay_loop (b : ByteArray) (at_ : Int) (ha : 0 ≤ at_) (hb : at_ ≤ b.size) (hsz : b.size ≤ 140737488351232) : ∀ (n i : Nat) (v : Int), i + n = 5 → 0 ≤ v → v < 2 ^ (7 * i) →
    Ev (fun k => lay_GetNum.l0 k b at_ v i) (gn n (bt b) b.size (at_ + i) i v)
  | 0, i, v, hi, _, _ => by
    obtain rfl : i = 5 := by omega
    refine Ev.step (f := fun _ => some (0, 0, 2)) (fun k => ?_) (Ev.now _)
    simp only [lay_GetNum.l0]; rw [if_neg (by omega)]
  | n + 1, i, v, hi, hv0, hv => by
    have hw : wrap64 (at_ + i) = at_ + i := w64 _ (by omega) (by omega)
    have hr := bt_range b (at_ + i)
    unfold gn
    by_cases c1 : at_ + i ≥ b.size
    · rw [if_pos c1]
      refine Ev.step (f := fun _ => some (0, 0, 3)) (fun k => ?_) (Ev.now _)
      simp only [lay_GetNum.l0]; rw [if_pos (by omega), hw, if_pos c1]
    rw [if_neg c1]
    refine Ev.step (f := fun k => lay_GetNum.j2 k b at_ v i (bt b (at_ + i)) i (decide (((i : Int) = 4 ∧ bt b (at_ + i) > 15) ∨ ((i : Int) > 0 ∧ bt b (at_ + i) = 0)))) (fun k => ?_) ?_
    · simp only [lay_GetNum.l0]
      rw [if_pos (by omega), hw, if_neg c1, if_pos (by omega), if_pos (by omega)]
      by_cases e4 : (i : Int) = 4
      · rw [if_pos e4]
        by_cases c15 : bt b (at_ + i) > 15
        · rw [if_pos c15, decide_eq_true (Or.inl ⟨e4, c15⟩)]
        · rw [if_neg c15, if_pos (by omega)]
          congr 1
          rw [Bool.eq_iff_iff]; simp; omega
      · rw [if_neg e4]
        by_cases c0 : (i : Int) > 0
        · rw [if_pos c0]
          congr 1
          rw [Bool.eq_iff_iff]; simp; omega
        · rw [if_neg c0]
          congr 1
          rw [Bool.eq_iff_iff]; simp; omega
    by_cases c2 : ((i : Int) = 4 ∧ bt b (at_ + i) > 15) ∨ ((i : Int) > 0 ∧ bt b (at_ + i) = 0)
    · rw [if_pos c2, decide_eq_true c2]
      refine Ev.step (f := fun _ => some (0, 0, 2)) (fun k => ?_) (Ev.now _)
      simp [lay_GetNum.j2]
    rw [if_neg c2, decide_eq_false c2]
    have hd := digit (bt b (at_ + i)) v i (by omega) hr.1 hr.2 (fun e => by
      rcases Int.lt_or_le 15 (bt b (at_ + i)) with h | h
      · exact absurd (Or.inl ⟨by omega, h⟩) c2
      · exact h) hv0 hv (7 * (i : Int)) rfl
    have hand := and_byte (bt b (at_ + i)) hr.1 (by omega)
    have hmod : (bt b (at_ + i)) % 128 % 4294967296 = (bt b (at_ + i)) % 128 := by omega
    have h7 : wrap64 (7 * (i : Int)) = 7 * i := w64 _ (by omega) (by omega)
    have ei : ((i : Int)).toNat = i := by omega
    rw [ei]
    by_cases c3 : bt b (at_ + i) < 128
    · rw [if_pos c3]
      refine Ev.step (f := fun _ => some (v + (bt b (at_ + i) % 128) * 2 ^ (7 * i), at_ + i + 1, 0)) (fun k => ?_) (Ev.now _)
      simp only [lay_GetNum.j2]
      rw [if_neg (by simp), h7, if_pos (by omega), if_pos c3, hand, hmod, hd, hw, w64 _ (by omega) (by omega)]
    · rw [if_neg c3]
      have ih := lay_loop b at_ ha hb hsz n (i + 1) (v + (bt b (at_ + i) % 128) * 2 ^ (7 * i)) (by omega) (next_lt _ v i hr.1 hv0 hv).1 (next_lt _ v i hr.1 hv0 hv).2
      rw [show at_ + ((i + 1 : Nat) : Int) = at_ + i + 1 from by omega, show ((i + 1 : Nat) : Int) = (i : Int) + 1 from by omega] at ih
      refine Ev.step (fun k => ?_) ih
      simp only [lay_GetNum.j2]
      rw [if_neg (by simp), h7, if_pos (by omega), if_neg c3, hand, hmod, hd, w64 _ (by omega) (by omega)]

theorem lay_getNum (b : ByteArray) (at_ : Int) (hsz : b.size ≤ 140737488351232) : Ev (fun k => lay_GetNum.f k b at_) (getNum (bt b) b.size at_) := by
  unfold getNum
  by_cases c : at_ < 0 ∨ at_ > b.size
  · rw [if_pos c]
    refine Ev.step (f := fun _ => some (0, 0, 1)) (fun k => ?_) (Ev.now _)
    unfold lay_GetNum.f
    by_cases c1 : at_ < 0
    · rw [if_pos c1]; simp [lay_GetNum.j0]
    · rw [if_neg c1]; have : at_ > b.size := by omega
      simp [lay_GetNum.j0, this]
  · rw [if_neg c]
    have := lay_loop b at_ (by omega) (by omega) hsz 5 0 0 (by omega) (by omega) (by simp)
    simp only [Int.natCast_zero, Int.add_zero] at this
    refine Ev.step (fun k => ?_) this
    unfold lay_GetNum.f
    rw [if_neg (by omega)]
    have : ¬ at_ > b.size := by omega
    simp [lay_GetNum.j0, this]
theorem ref_loop (b : ByteArray) (hsz : b.size ≤ 140737488351232) : ∀ (n i : Nat) (at_ v : Int), i + n = 4 → 0 ≤ at_ → at_ ≤ b.size → 0 ≤ v → v < 2 ^ (7 * i) →
    Ev (fun k => cachepotref1_GetNum.l0 k b at_ v i) (gn (n + 1) (bt b) b.size at_ i v)
  | n, i, at_, v, hi, ha, hb, hv0, hv => by
    have hr := bt_range b at_
    unfold gn
    by_cases c1 : at_ ≥ b.size
    · rw [if_pos c1]
      refine Ev.step (f := fun _ => some (0, 0, 3)) (fun k => ?_) (Ev.now _)
      simp only [cachepotref1_GetNum.l0]; rw [if_pos (by omega), if_pos c1]
    rw [if_neg c1]
    have hw : wrap64 (at_ + 1) = at_ + 1 := w64 _ (by omega) (by omega)
    refine Ev.step (f := fun k => cachepotref1_GetNum.j2 k b (at_ + 1) v i (bt b at_) (decide (((i : Int) = 4 ∧ bt b at_ > 15) ∨ ((i : Int) > 0 ∧ bt b at_ = 0)))) (fun k => ?_) ?_
    · simp only [cachepotref1_GetNum.l0]
      rw [if_pos (by omega), if_neg c1, if_pos (by omega), if_pos (by omega), hw]
      by_cases e4 : (i : Int) = 4
      · rw [if_pos e4]
        by_cases c15 : bt b at_ > 15
        · rw [if_pos c15, decide_eq_true (Or.inl ⟨e4, c15⟩)]
        · rw [if_neg c15]
          by_cases c0 : bt b at_ = 0
          · rw [if_pos c0]; congr 1; rw [Bool.eq_iff_iff]; simp; omega
          · rw [if_neg c0]; congr 1; rw [Bool.eq_iff_iff]; simp; omega
      · rw [if_neg e4]
        by_cases c0 : bt b at_ = 0
        · rw [if_pos c0]; congr 1; rw [Bool.eq_iff_iff]; simp; omega
        · rw [if_neg c0]; congr 1; rw [Bool.eq_iff_iff]; simp; omega
    by_cases c2 : ((i : Int) = 4 ∧ bt b at_ > 15) ∨ ((i : Int) > 0 ∧ bt b at_ = 0)
    · rw [if_pos c2, decide_eq_true c2]
      refine Ev.step (f := fun _ => some (0, 0, 2)) (fun k => ?_) (Ev.now _)
      simp [cachepotref1_GetNum.j2]
    rw [if_neg c2, decide_eq_false c2]
    have h15 : i = 4 → bt b at_ ≤ 15 := fun e => by
      rcases Int.lt_or_le 15 (bt b at_) with h | h
      · exact absurd (Or.inl ⟨by omega, h⟩) c2
      · exact h
    have hd := digit (bt b at_) v i (by omega) hr.1 hr.2 h15 hv0 hv (7 * (i : Int)) rfl
    have hand : Int.tmod (bt b at_) 128 = bt b at_ % 128 := Int.tmod_eq_emod_of_nonneg hr.1
    have hmod : (bt b at_) % 128 % 4294967296 = (bt b at_) % 128 := by omega
    have h7 : IntKind.u64.wrap (wrap64 (7 * (i : Int))) = 7 * i := by
      rw [w64 _ (by omega) (by omega)]
      unfold IntKind.wrap
      simp only [IntKind.bits, IntKind.signed, Bool.false_and, Bool.false_eq_true, if_false]
      omega
    have ei : ((i : Int)).toNat = i := by omega
    rw [ei]
    by_cases c3 : bt b at_ < 128
    · rw [if_pos c3]
      refine Ev.step (f := fun _ => some (v + (bt b at_ % 128) * 2 ^ (7 * i), at_ + 1, 0)) (fun k => ?_) (Ev.now _)
      simp only [cachepotref1_GetNum.j2]
      rw [if_neg (by simp), h7, if_pos (by omega), if_pos c3, hand, hmod, hd]
    · rw [if_neg c3]
      match n, hi with
      | 0, hi => have := h15 (by omega); omega
      | n + 1, hi =>
        have ih := ref_loop b hsz n (i + 1) (at_ + 1) (v + (bt b at_ % 128) * 2 ^ (7 * i)) (by omega) (by omega) (by omega) (next_lt _ v i hr.1 hv0 hv).1 (next_lt _ v i hr.1 hv0 hv).2
        rw [show ((i + 1 : Nat) : Int) = (i : Int) + 1 from by omega] at ih
        refine Ev.step (fun k => ?_) ih
        simp only [cachepotref1_GetNum.j2]
        rw [if_neg (by simp), h7, if_pos (by omega), if_neg c3, hand, hmod, hd, w64 _ (by omega) (by omega)]

theorem ref_getNum (b : ByteArray) (at_ : Int) (hsz : b.size ≤ 140737488351232) : Ev (fun k => cachepotref1_GetNum.f k b at_) (getNum (bt b) b.size at_) := by
  unfold getNum
  by_cases c : at_ < 0 ∨ at_ > b.size
  · rw [if_pos c]
    refine Ev.step (f := fun _ => some (0, 0, 1)) (fun k => ?_) (Ev.now _)
    unfold cachepotref1_GetNum.f
    by_cases c1 : at_ < 0
    · rw [if_pos c1]; simp [cachepotref1_GetNum.j0]
    · rw [if_neg c1]; have : at_ > b.size := by omega
      simp [cachepotref1_GetNum.j0, this]
  · rw [if_neg c]
    have := ref_loop b hsz 4 0 at_ 0 (by omega) (by omega) (by omega) (by omega) (by simp)
    refine Ev.step (fun k => ?_) this
    unfold cachepotref1_GetNum.f
    rw [if_neg (by omega)]
    have : ¬ at_ > b.size := by omega
    simp [cachepotref1_GetNum.j0, this]
end Go.Proofs.Ytcadbihgfahjjaa.KLayTexts

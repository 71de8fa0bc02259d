/- Of whole runes the order of runes is that of bytes. -/
import Derived.Test.YtobfoiomjfdjjaaDoorPureCmp
import Derived.Test.YtobfoiomjfdjjaaDoorPureJoin
namespace Go.Proofs.YtobfoiomjfdjjaaDoor.PureBytes
open Go.RowKit Go.Proofs.YtobfoiomjfdjjaaDoor.Mc Go.Proofs.YtobfoiomjfdjjaaDoor.N Go.Proofs.YtobfoiomjfdjjaaDoor.Plain Go.Proofs.YtobfoiomjfdjjaaDoor.PureRune Go.Proofs.YtobfoiomjfdjjaaDoor.PureKeys Go.Proofs.YtobfoiomjfdjjaaDoor.PureCmp Go.Proofs.YtobfoiomjfdjjaaDoor.PureHead
set_option linter.unusedSimpArgs false
set_option linter.unusedVariables false
/-- a rune's bytes -/
def encN (x : Nat) : List Nat :=
  if x < 128 then [x]
  else if x < 2048 then [192 + x / 64, 128 + x % 64]
  else if x < 65536 then [224 + x / 4096, 128 + x / 64 % 64, 128 + x % 64]
  else [240 + x / 262144, 128 + x / 4096 % 64, 128 + x / 64 % 64, 128 + x % 64]
def nless : List Nat → List Nat → Bool
  | _, [] => false
  | [], _ :: _ => true
  | x :: xs, y :: ys => decide (x < y) || (x == y && nless xs ys)
theorem nless_pre (u v : List Nat) : ∀ (a : List Nat), nless (a ++ u) (a ++ v) = nless u v
  | [] => rfl
  | x :: a => by
    simp only [List.cons_append, nless, nless_pre u v a, BEq.rfl, Bool.true_and, show decide (x < x) = false from decide_eq_false (by omega), Bool.false_or]
theorem nless_asymm : ∀ (a b : List Nat), nless a b = true → nless b a = false
  | _, [], h => by simp [nless] at h
  | [], _ :: _, _ => rfl
  | x :: xs, y :: ys, h => by
    have ih := nless_asymm xs ys
    simp only [nless, Bool.or_eq_true, Bool.and_eq_true, decide_eq_true_eq, beq_iff_eq] at h
    simp only [nless, Bool.or_eq_false_iff, Bool.and_eq_false_iff, decide_eq_false_iff_not, beq_eq_false_iff_ne]
    rcases h with h | ⟨rfl, h⟩
    · exact ⟨by omega, .inl (by omega)⟩
    · exact ⟨by omega, .inr (ih h)⟩
theorem enc_lt {x y : Nat} (h : x < y) (u v : List Nat) : nless (encN x ++ u) (encN y ++ v) = true := by
  unfold encN
  repeat' split
  all_goals
    simp only [List.cons_append, List.nil_append, nless, Bool.or_eq_true, Bool.and_eq_true, decide_eq_true_eq, beq_iff_eq]
    omega
theorem loB (b : Nat) : 128 ≤ lo_ b ∧ hi_ b ≤ 191 ∧ (b = 224 → 160 ≤ lo_ b) ∧ (b = 240 → 144 ≤ lo_ b) := by
  unfold lo_ hi_
  refine ⟨?_, ?_, ?_, ?_⟩ <;> (repeat' split) <;> omega
theorem enc_of {n b0 b1 b2 b3 x w : Nat} (hn : 1 ≤ n) (h0 : b0 < 256) (h1 : b1 < 256) (h2 : b2 < 256) (h3 : b3 < 256) (h : Lib.decodeN n b0 b1 b2 b3 = (x, w)) (hne : (x, w) ≠ (65533, 1)) :
    w ≤ n ∧ 1 ≤ w ∧ w ≤ 4 ∧ encN x = [b0, b1, b2, b3].take w := by
  rw [← refN_eq _ _ _ _ _ h0 h1 h2 h3] at h
  have hb := loB b0
  unfold refN at h
  split at h
  · cases h
    refine ⟨hn, by omega, by omega, ?_⟩
    unfold encN; rw [if_pos (by omega)]; rfl
  · split at h
    · cases h
      refine ⟨by omega, by omega, by omega, ?_⟩
      unfold encN; rw [if_neg (by omega), if_pos (by omega)]
      simp only [List.take, List.cons.injEq, and_true]
      omega
    · split at h
      · rename_i g
        cases h
        have g1 : 128 ≤ b1 ∧ b1 ≤ 191 ∧ (b0 = 224 → 160 ≤ b1) := by omega
        refine ⟨by omega, by omega, by omega, ?_⟩
        unfold encN; rw [if_neg (by omega), if_neg (by omega), if_pos (by omega)]
        simp only [List.take, List.cons.injEq, and_true]
        omega
      · split at h
        · rename_i g
          cases h
          have g1 : 128 ≤ b1 ∧ b1 ≤ 191 ∧ (b0 = 240 → 144 ≤ b1) := by omega
          refine ⟨by omega, by omega, by omega, ?_⟩
          unfold encN; rw [if_neg (by omega), if_neg (by omega), if_neg (by omega)]
          simp only [List.take, List.cons.injEq, and_true]
          omega
        · exact absurd h.symm hne
/-- a text's bytes from a place on -/
def bs (s : ByteArray) (p : Nat) : List Nat := (s.data.toList.drop p).map UInt8.toNat
theorem bs_cons (s : ByteArray) (p : Nat) (h : p < s.size) : bs s p = at_ s p :: bs s (p + 1) := by
  unfold bs at_
  have hl : p < s.data.toList.length := by rw [← Lib.size_eq]; exact h
  rw [List.drop_eq_getElem_cons hl, List.map_cons]
  congr 2
  rw [← Lib.getD_get!', List.getD, List.getElem?_eq_getElem hl]; rfl
theorem bs_end (s : ByteArray) (p : Nat) (h : s.size ≤ p) : bs s p = [] := by
  unfold bs
  rw [List.drop_eq_nil_of_le (by rw [← Lib.size_eq]; exact h)]; rfl
theorem bs_rune (s : ByteArray) (p : Nat) (h : p < s.size) (hne : Utf8.decode s p ≠ (65533, 1)) : bs s p = encN (Utf8.decode s p).1 ++ bs s (p + (Utf8.decode s p).2) ∧ (Utf8.decode s p).2 ≤ 4 := by
  rcases hd : Utf8.decode s p with ⟨x, w⟩
  rw [hd] at hne
  rw [Lib.decode_at] at hd
  obtain ⟨h1, h2, h3, h4⟩ := enc_of (by omega) (at_lt s p) (at_lt s (p + 1)) (at_lt s (p + 2)) (at_lt s (p + 3)) hd hne
  refine ⟨?_, h3⟩
  simp only
  rw [h4]
  rcases (by omega : w = 1 ∨ w = 2 ∨ w = 3 ∨ w = 4) with rfl | rfl | rfl | rfl
  · rw [bs_cons s p h]; rfl
  · rw [bs_cons s p h, bs_cons s (p + 1) (by omega)]; rfl
  · rw [bs_cons s p h, bs_cons s (p + 1) (by omega), bs_cons s (p + 1 + 1) (by omega)]; rfl
  · rw [bs_cons s p h, bs_cons s (p + 1) (by omega), bs_cons s (p + 1 + 1) (by omega), bs_cons s (p + 1 + 1 + 1) (by omega)]; rfl
def E (A : List Nat) : List Nat := A.flatMap encN
theorem bs_runes {s : ByteArray} : ∀ {p : Nat} {L : List (Nat × Nat)}, Runes s p L → (∀ x ∈ L, x ≠ (65533, 1)) → bs s p = E (L.map (·.1))
  | _, _, .nil p h, _ => bs_end s p (by omega)
  | _, _, .cons p h L t, hx => by
    rw [(bs_rune s p h (hx _ (by simp))).1, bs_runes t (fun x hx' => hx x (by simp [hx']))]
    rfl
theorem enc_ne (x : Nat) : ∃ b l, encN x = b :: l := by
  unfold encN
  repeat' split
  all_goals exact ⟨_, _, rfl⟩
theorem order : ∀ (L M : List (Nat × Nat)), nless (E (L.map (·.1))) (E (M.map (·.1))) = decide (cmp (rs L) (rs M) < 0)
  | [], [] => rfl
  | [], y :: M => by
    obtain ⟨b, l, e⟩ := enc_ne y.1
    simp only [List.map_nil, List.map_cons, E, List.flatMap_cons, List.flatMap_nil, e, List.cons_append]
    rfl
  | x :: L, [] => by
    obtain ⟨b, l, e⟩ := enc_ne x.1
    simp only [List.map_nil, List.map_cons, E, List.flatMap_cons, List.flatMap_nil, e, List.cons_append]
    rfl
  | x :: L, y :: M => by
    have ih := order L M
    simp only [E] at ih
    simp only [List.map_cons, E, List.flatMap_cons, rs, cmp]
    by_cases h : x.1 = y.1
    · rw [h, nless_pre, ih, if_pos rfl]; rfl
    · rw [if_neg (by omega)]
      by_cases h2 : x.1 < y.1
      · rw [enc_lt h2, if_pos (by omega)]; rfl
      · rw [nless_asymm _ _ (enc_lt (by omega : y.1 < x.1) _ _), if_neg (by omega)]; rfl
theorem bless : ∀ (a b : List UInt8), Op.bytesLess a b = nless (a.map UInt8.toNat) (b.map UInt8.toNat)
  | [], [] => rfl
  | _ :: _, [] => rfl
  | [], _ :: _ => rfl
  | x :: xs, y :: ys => by
    simp only [Op.bytesLess, List.map_cons, nless, bless xs ys]
    have e1 : decide (x < y) = decide (x.toNat < y.toNat) := rfl
    have e2 : (x == y) = (x.toNat == y.toNat) := by
      rw [Bool.eq_iff_iff, beq_iff_eq, beq_iff_eq]
      exact ⟨fun h => by rw [h], fun h => UInt8.toNat_inj.1 h⟩
    rw [e1, e2]
theorem cmp_eq : ∀ (A B : List Int), cmp A B = 0 → A = B
  | [], [], _ => rfl
  | [], _ :: _, h => by cases h
  | _ :: _, [], h => by cases h
  | x :: xs, y :: ys, h => by
    unfold cmp at h
    split at h
    · rename_i e; rw [e, cmp_eq xs ys h]
    · split at h <;> omega
theorem uniq {s : ByteArray} : ∀ {p : Nat} {A B : List (Nat × Nat)}, Runes s p A → Runes s p B → A = B := by
  intro p A B hA
  induction hA generalizing B with
  | nil p h => intro hB; cases hB with
    | nil => rfl
    | cons _ h' => exact absurd h' h
  | cons p h L t ih => intro hB; cases hB with
    | nil _ h' => exact absurd h h'
    | cons _ _ L' t' => rw [ih t']
theorem E_inj : ∀ (A B : List Nat), E A = E B → A = B
  | [], [], _ => rfl
  | [], y :: B, h => by
    obtain ⟨b, l, e⟩ := enc_ne y
    simp only [E, List.flatMap_cons, List.flatMap_nil, e, List.cons_append] at h
    cases h
  | x :: A, [], h => by
    obtain ⟨b, l, e⟩ := enc_ne x
    simp only [E, List.flatMap_cons, List.flatMap_nil, e, List.cons_append] at h
    cases h
  | x :: A, y :: B, h => by
    simp only [E, List.flatMap_cons] at h
    have key : ∀ a b : List Nat, a = b → nless a b = false := fun a b e => by
      subst e
      cases g : nless a a with
      | false => rfl
      | true => rw [nless_asymm a a g] at g; cases g
    rcases Nat.lt_trichotomy x y with g | g | g
    · have := enc_lt g (A.flatMap encN) (B.flatMap encN); rw [key _ _ h] at this; cases this
    · subst g; rw [E_inj A B (List.append_cancel_left h)]
    · have := enc_lt g (B.flatMap encN) (A.flatMap encN); rw [key _ _ h.symm] at this; cases this
theorem width4 {s : ByteArray} : ∀ {p : Nat} {L : List (Nat × Nat)}, Runes s p L → p ≤ s.size → s.size ≤ p + 4 * L.length
  | _, _, .nil p h, _ => by simp only [List.length_nil]; omega
  | _, _, .cons p h L t, hp => by
    have h1 := width4 t (width_le s p h)
    have h2 := decode_le4 s p
    simp only [List.length_cons]; omega
end Go.Proofs.YtobfoiomjfdjjaaDoor.PureBytes

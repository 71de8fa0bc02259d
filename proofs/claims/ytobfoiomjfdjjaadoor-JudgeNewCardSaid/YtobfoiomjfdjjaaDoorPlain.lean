/- Plain laws' tools: loops, wraps, indices. -/
import Derived.Test.YtobfoiomjfdjjaaDoorX1
namespace Go.Proofs.YtobfoiomjfdjjaaDoor.Plain
open Go.RowKit Go.Proofs.YtobfoiomjfdjjaaDoor.Mc

theorem w64 {x : Int} (h0 : -9223372036854775808 ≤ x) (h1 : x < 9223372036854775808) : IntKind.wrap .i64 x = x := by
  unfold IntKind.wrap
  have e1 : IntKind.signed .i64 = true := rfl
  have e2 : IntKind.bits .i64 = 64 := rfl
  simp only [e1, e2]
  simp
  omega
theorem w32 {x : Int} (h0 : 0 ≤ x) (h1 : x < 4294967296) : IntKind.wrap .u32 x = x := by
  show x % 4294967296 = x
  omega
theorem grdT {β : Type} {c : Bool} {k : Option β} (h : c = true) : grd c k = k := by subst h; rfl
theorem grdD {β : Type} {p : Prop} [Decidable p] {k : Option β} (h : p) : grd (decide p) k = k := by rw [decide_eq_true h]; rfl
theorem ixn {α : Type} (xs : List α) (i : Nat) : ix xs (i : Int) = xs[i]? := by
  unfold ix; rw [decide_eq_true (by omega), cond_true, Int.toNat_natCast]
theorem condT {α : Type} {p : Prop} [Decidable p] {a b : α} (h : p) : cond (decide p) a b = a := by rw [decide_eq_true h]; rfl
theorem condF {α : Type} {p : Prop} [Decidable p] {a b : α} (h : ¬ p) : cond (decide p) a b = b := by rw [decide_eq_false h]; rfl

/-- a loop whose states are known -/
theorem loop_run {α β : Type} {f : α → Option (α ⊕ β)} (st : Nat → α) (r : β) : ∀ (n k : Nat), n < k → (∀ i, i < n → f (st i) = some (.inl (st (i + 1)))) → f (st n) = some (.inr r) → loopN f k (st 0) = some r := by
  intro n k hk hs hd
  have key : ∀ m, m ≤ n → ∀ k, m < k → loopN f k (st (n - m)) = some r := by
    intro m
    induction m with
    | zero =>
      intro _ k hk
      obtain ⟨k, rfl⟩ : ∃ j, k = j + 1 := ⟨k - 1, by omega⟩
      simp only [loopN, Nat.sub_zero, hd, Option.bind_some, sel]
    | succ m ih =>
      intro hm k hk
      obtain ⟨k, rfl⟩ : ∃ j, k = j + 1 := ⟨k - 1, by omega⟩
      have := hs (n - (m + 1)) (by omega)
      rw [show n - (m + 1) + 1 = n - m by omega] at this
      simp only [loopN, this, Option.bind_some, sel]
      exact ih (by omega) k (by omega)
  have := key n (Nat.le_refl _) k hk
  rwa [Nat.sub_self] at this
theorem loop_go {α β : Type} {f : α → Option (α ⊕ β)} {a : α} {r : β} {k : Nat} (st : Nat → α) (n : Nat) (h0 : st 0 = a) (hk : n < k) (hs : ∀ i, i < n → f (st i) = some (.inl (st (i + 1)))) (hd : f (st n) = some (.inr r)) : loopN f k a = some r := by
  rw [← h0]; exact loop_run st r n k hk hs hd
/-- a loop of which only so much is known -/
theorem loop_inv {α β : Type} {f : α → Option (α ⊕ β)} {a : α} {k : Nat} (I : Nat → α → Prop) (R : β → Prop) (n : Nat) (h0 : I 0 a) (hk : n < k) (hs : ∀ i a, i < n → I i a → ∃ b, f a = some (.inl b) ∧ I (i + 1) b) (hd : ∀ a, I n a → ∃ r, f a = some (.inr r) ∧ R r) : ∃ r, loopN f k a = some r ∧ R r := by
  have key : ∀ m, m ≤ n → ∀ k, m < k → ∀ a, I (n - m) a → ∃ r, loopN f k a = some r ∧ R r := by
    intro m
    induction m with
    | zero =>
      intro _ k hk a ha
      obtain ⟨k, rfl⟩ : ∃ j, k = j + 1 := ⟨k - 1, by omega⟩
      obtain ⟨r, h1, h2⟩ := hd a ha
      exact ⟨r, by simp only [loopN, h1, Option.bind_some, sel], h2⟩
    | succ m ih =>
      intro hm k hk a ha
      obtain ⟨k, rfl⟩ : ∃ j, k = j + 1 := ⟨k - 1, by omega⟩
      obtain ⟨b, h1, h2⟩ := hs _ a (by omega) ha
      rw [show n - (m + 1) + 1 = n - m by omega] at h2
      obtain ⟨r, h3, h4⟩ := ih (by omega) k (by omega) b h2
      exact ⟨r, by simp only [loopN, h1, Option.bind_some, sel]; exact h3, h4⟩
  exact key n (Nat.le_refl _) k hk a (by rw [Nat.sub_self]; exact h0)
theorem u32_wf {x : Int} (h : (Lit.int .u32 x).wf = true) : 0 ≤ x ∧ x < 4294967296 := by
  simp only [Lit.wf, Bool.and_eq_true, decide_eq_true_eq] at h
  have e1 : IntKind.min .u32 = 0 := by decide
  have e2 : IntKind.max .u32 = 4294967295 := by decide
  omega
theorem i64_wf {x : Int} (h : (Lit.int .i64 x).wf = true) : -9223372036854775808 ≤ x ∧ x < 9223372036854775808 := by
  simp only [Lit.wf, Bool.and_eq_true, decide_eq_true_eq] at h
  have e1 : IntKind.min .i64 = -9223372036854775808 := by decide
  have e2 : IntKind.max .i64 = 9223372036854775807 := by decide
  omega
theorem len0 {α : Type} (x : List α) : ((x.length : Int) == 0) = x.isEmpty := by
  cases x with
  | nil => rfl
  | cons y x => rw [List.isEmpty_cons, beq_eq_false_iff_ne]; simp only [List.length_cons]; omega
/-- Pick's remainder -/
theorem tmod_emod {a n : Int} (hn : 0 < n) : (if a.tmod n < 0 then a.tmod n + n else a.tmod n) = a % n := by
  have h1 := Int.emod_nonneg a (show n ≠ 0 by omega)
  have h2 := Int.emod_lt_of_pos a hn
  rw [Int.tmod_eq_emod]
  have e : (n.natAbs : Int) = n := by omega
  by_cases h : 0 ≤ a ∨ n ∣ a
  · simp only [if_pos h]
    split <;> omega
  · simp only [if_neg h, e]
    split <;> omega
end Go.Proofs.YtobfoiomjfdjjaaDoor.Plain

/- A text's runes, and what the functions on keys tell of them. -/
import Derived.Test.YtobfoiomjfdjjaaDoorPureRune
import Derived.Lib.RuneCountTail
namespace Go.Proofs.YtobfoiomjfdjjaaDoor.PureKeys
open Go.RowKit Go.Proofs.YtobfoiomjfdjjaaDoor.Mc Go.Proofs.YtobfoiomjfdjjaaDoor.N Go.Proofs.YtobfoiomjfdjjaaDoor.Plain Go.Proofs.YtobfoiomjfdjjaaDoor.PureRune
set_option linter.unusedSimpArgs false
set_option linter.unusedVariables false

/-- the runes from a place on, each with its bytes -/
inductive Runes (s : ByteArray) : Nat → List (Nat × Nat) → Prop where
  | nil (p : Nat) (h : ¬ p < s.size) : Runes s p []
  | cons (p : Nat) (h : p < s.size) (L : List (Nat × Nat)) (t : Runes s (p + (Utf8.decode s p).2) L) : Runes s p (Utf8.decode s p :: L)
theorem runes_ex (s : ByteArray) : ∀ (m p : Nat), s.size - p ≤ m → ∃ L, Runes s p L ∧ L.length ≤ s.size - p
  | 0, p, h => ⟨[], .nil p (by omega), by simp⟩
  | m + 1, p, h => by
    by_cases hp : p < s.size
    · have h1 := Lib.decode_width_pos s p hp
      obtain ⟨L, h2, h3⟩ := runes_ex s m (p + (Utf8.decode s p).2) (by omega)
      exact ⟨_, .cons p hp L h2, by simp only [List.length_cons]; omega⟩
    · exact ⟨[], .nil p hp, by simp⟩

theorem loop_step {α β : Type} {f : α → Option (α ⊕ β)} {k : Nat} {a b : α} (h : f a = some (.inl b)) : loopN f (k + 1) a = loopN f k b := by simp only [loopN, h, Option.bind_some, sel]
theorem loop_end {α β : Type} {f : α → Option (α ⊕ β)} {k : Nat} {a : α} {r : β} (h : f a = some (.inr r)) : loopN f (k + 1) a = some r := by simp only [loopN, h, Option.bind_some, sel]

theorem decode_le4 (s : ByteArray) (p : Nat) : (Utf8.decode s p).2 ≤ 4 := by
  rw [Lib.decode_at]
  unfold Lib.decodeN
  repeat' split
  all_goals simp
/-- the reference's runes -/
def rs (L : List (Nat × Nat)) : List Int := L.map fun x => (x.1 : Int)
def ns (L : List (Nat × Nat)) : List Int := L.map fun x => (x.2 : Int)
/-- a rune that may stand in a key -/
def okR (x : Nat × Nat) : Bool := decide (33 ≤ x.1) && !(decide (127 ≤ x.1) && decide (x.1 ≤ 160)) && !(x.1 == 65533 && x.2 == 1)
def okL : Nat → List (Nat × Nat) → Bool
  | _, [] => true
  | m, x :: L => decide (m + 1 ≤ 12) && okR x && okL (m + 1) L
theorem okL_eq : ∀ (L : List (Nat × Nat)) (m : Nat), okL m L = (L.all okR && (L.isEmpty || decide (m + L.length ≤ 12)))
  | [], m => rfl
  | x :: L, m => by
    rw [okL, okL_eq L (m + 1)]
    simp only [List.all_cons, List.isEmpty_cons, Bool.false_or, List.length_cons]
    cases okR x with
    | false => simp
    | true =>
      cases L.all okR with
      | false => simp
      | true =>
        simp only [Bool.and_true, Bool.true_and]
        cases L with
        | nil => simp
        | cons y L =>
          simp only [List.isEmpty_cons, Bool.false_or, List.length_cons]
          rw [← Bool.decide_and, decide_eq_decide]
          omega
end Go.Proofs.YtobfoiomjfdjjaaDoor.PureKeys

/- What the roll's functions compute, told plainly. -/
import Derived.Test.YtljbepjbecjpiaaX1
namespace Go.Proofs.Ytljbepjbecjpiaa.PureRoll
open Go.RowKit Go.Proofs.Ytljbepjbecjpiaa.Mc Go.Proofs.Ytljbepjbecjpiaa.N

abbrev Spots := List (Int × Int)
abbrev Places := List (Int × Int × Spots)

theorem clone (k : Nat) (x : Spots) (h : x.length ≤ 1000000) : F30 k x = some x := by
  unfold F30
  rw [nilT_of]
  · rw [grd, decide_eq_true (by simp only [List.length_nil]; omega), cond_true]; rfl
  · intro hx
    have : x = [] := List.isEmpty_iff.1 hx
    subst this
    rfl
theorem own (k : Nat) (a b : Int) (x : Spots) (h : x.length ≤ 1000000) : F26 k a b x = some (a, b, x) := by
  unfold F26
  rw [clone k x h]; rfl
theorem len0 {α : Type} (x : List α) : ((x.length : Int) == 0) = x.isEmpty := by
  cases x with
  | nil => rfl
  | cons y x => rw [List.isEmpty_cons, beq_eq_false_iff_ne]; simp only [List.length_cons]; omega

/-- Add, as it is to be -/
def add (seq frm : Int) (s : Spots) (last : Int) (l : Places) : Int × Int × Places :=
  if seq = 0 ∨ s = [] then (1, last, l) else if seq ≤ last then (7, last, l) else (0, seq, l ++ [(seq, frm, s)])
theorem add_run (k : Nat) (seq frm : Int) (s : Spots) (last : Int) (l : Places) (hs : s.length ≤ 1000000) (hl : l.length ≤ 1000000) : F14 k seq frm s last l = some (add seq frm s last l) := by
  unfold F14 add
  rw [len0, own k seq frm s hs]
  by_cases h0 : seq = 0
  · subst h0; simp
  · have e0 : (seq == 0) = false := by simpa using h0
    rw [e0]
    cases s with
    | nil => simp
    | cons y s =>
      by_cases hle : seq ≤ last
      · simp [h0, hle]
      · simp only [h0, hle, List.isEmpty_cons, cond_false, Option.bind_some, decide_false, if_false, or_self, reduceCtorEq]
        rw [grd, decide_eq_true (by simp only [List.length_singleton]; omega), cond_true]
theorem alive : F9 100 = some true := by kernel_rfl
theorem u32_wf {x : Int} (h : (Lit.int .u32 x).wf = true) : 0 ≤ x ∧ x < 4294967296 := by
  simp only [Lit.wf, Bool.and_eq_true, decide_eq_true_eq] at h
  have e1 : IntKind.min .u32 = 0 := by decide
  have e2 : IntKind.max .u32 = 4294967295 := by decide
  omega
theorem i64_wf {x : Int} (h : (Lit.int .i64 x).wf = true) : -9223372036854775808 ≤ x ∧ x < 9223372036854775808 := by
  simp only [Lit.wf, Bool.and_eq_true, decide_eq_true_eq] at h
  have e1 : IntKind.min .i64 = -9223372036854775808 := by decide
  have e2 : IntKind.max .i64 = 9223372036854775807 := by decide
  omega
end Go.Proofs.Ytljbepjbecjpiaa.PureRoll

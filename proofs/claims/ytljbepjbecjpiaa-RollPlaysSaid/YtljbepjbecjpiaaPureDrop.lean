/- Drop and Of, told plainly. -/
import Derived.Test.YtljbepjbecjpiaaPureMade
namespace Go.Proofs.Ytljbepjbecjpiaa.PureDrop
open Go.RowKit Go.Proofs.Ytljbepjbecjpiaa.Mc Go.Proofs.Ytljbepjbecjpiaa.N Go.Proofs.Ytljbepjbecjpiaa.Plain
open Go.Proofs.Ytljbepjbecjpiaa.PureRoll hiding len0 u32_wf i64_wf
open Go.Proofs.Ytljbepjbecjpiaa.PureMade
set_option linter.unusedSimpArgs false
set_option linter.unusedVariables false

/-- how many of the first are at or below a number -/
def low (f : Int) (l : Places) : Nat := (l.takeWhile fun p => decide (p.1 ≤ f)).length
theorem low_le (f : Int) (l : Places) : low f l ≤ l.length := by
  unfold low
  exact (List.takeWhile_sublist _).length_le
theorem low_lt {f : Int} : ∀ {l : Places} {i : Nat} (h : i < low f l) (hl : i < l.length), l[i].1 ≤ f
  | [], i, h, hl => by simp at hl
  | p :: l, i, h, hl => by
    unfold low at h
    by_cases hp : p.1 ≤ f
    · have e : ((p :: l).takeWhile fun p => decide (p.1 ≤ f)) = p :: l.takeWhile fun p => decide (p.1 ≤ f) := by simp [List.takeWhile_cons, hp]
      rw [e] at h
      cases i with
      | zero => exact hp
      | succ i => exact low_lt (l := l) (i := i) (by simp only [List.length_cons] at h; unfold low; omega) (by simp only [List.length_cons] at hl; omega)
    · have e : ((p :: l).takeWhile fun p => decide (p.1 ≤ f)) = [] := by simp [List.takeWhile_cons, hp]
      rw [e] at h
      simp at h
theorem low_ge {f : Int} {l : Places} (h : low f l < l.length) : ¬ (l[low f l].1 ≤ f) := by
  induction l with
  | nil => simp at h
  | cons p l ih =>
    unfold low at h ⊢
    by_cases hp : p.1 ≤ f
    · have e : ((p :: l).takeWhile fun p => decide (p.1 ≤ f)) = p :: l.takeWhile fun p => decide (p.1 ≤ f) := by simp [List.takeWhile_cons, hp]
      simp only [e, List.length_cons, List.getElem_cons_succ] at h ⊢
      exact ih (by unfold low; omega)
    · have e : ((p :: l).takeWhile fun p => decide (p.1 ≤ f)) = [] := by simp [List.takeWhile_cons, hp]
      simp only [e, List.length_nil, List.getElem_cons_zero]
      exact hp

theorem drop_run (f last : Int) (l : Places) (hl : l.length ≤ 60) : F17 100 f last l = some ((low f l : Int), last, l.drop (low f l)) := by
  have hle := low_le f l
  have loop : loopN (L17_14 100 f l) 100 0 = some ((low f l : Nat) : Int) := by
    refine loop_go (fun i => (i : Int)) (low f l) rfl (by omega) (fun i hi => ?_) ?_
    · unfold L17_14
      have hil : i < l.length := by omega
      rw [condT (by omega)]
      simp only [ixn, Int.toNat_natCast, List.getElem?_eq_getElem hil, Option.bind_some]
      rw [condT (low_lt hi hil), w64 (by omega) (by omega)]; rfl
    · unfold L17_14
      by_cases h : low f l < l.length
      · rw [condT (by omega)]
        simp only [ixn, Int.toNat_natCast, List.getElem?_eq_getElem h, Option.bind_some]
        rw [condF (low_ge h)]
      · rw [condF (by omega)]; rfl
  unfold F17
  rw [loop]
  simp only [Option.bind_some, Int.toNat_natCast]
  rw [grdT (by unfold bnds; exact decide_eq_true (by omega))]
  have hc : F27 100 (low f l) (l.length - low f l) l = some (l.drop (low f l)) := by
    unfold F27
    have e : (l.drop (low f l)).take (l.length - low f l) = l.drop (low f l) := List.take_of_length_le (by rw [List.length_drop]; omega)
    rw [e, nilT_of]
    · rw [grdD (by simp only [List.length_nil, List.length_drop]; omega)]; rfl
    · intro h
      have h0 := Nat.eq_of_beq_eq_true h
      have e2 : l.drop (low f l) = [] := List.drop_eq_nil_of_le (by omega)
      rw [e2]; rfl
  rw [hc]; rfl

def ofR (q : Int) (l : Places) : Int × Int × Spots × Bool := match l.find? fun p => p.1 == q with
  | some p => (p.1, p.2.1, p.2.2, true)
  | none => (0, 0, [], false)
theorem of_run (q last : Int) (l : Places) (hl : l.length ≤ 60) (hs : ∀ p ∈ l, p.2.2.length ≤ 50) : F19_1 100 q last l = some (ofR q l) := by
  unfold F19_1 ofR
  by_cases he : ∃ x ∈ l, (x.1 == q) = true
  · have hlt := List.findIdx_lt_length_of_exists he
    have hf : l.find? (fun p => p.1 == q) = some l[l.findIdx fun p => p.1 == q] := by
      rw [List.find?_eq_some_iff_getElem]
      refine ⟨List.findIdx_getElem (w := hlt), _, hlt, rfl, fun j hj => ?_⟩
      have := List.not_of_lt_findIdx hj
      simpa using this
    have hm := List.getElem_mem hlt
    generalize hp : l[l.findIdx fun p => p.1 == q] = p at hf hm
    have loop : loopN (L19_1_9 100 q l) 100 0 = some (.inl (p.1, p.2.1, p.2.2)) := by
      refine loop_go (fun i => (i : Int)) (l.findIdx fun p => p.1 == q) rfl (by omega) (fun i hi => ?_) ?_
      · have hn := List.not_of_lt_findIdx hi
        unfold L19_1_9
        have hil : i < l.length := by omega
        rw [condT (by omega)]
        simp only [ixn, Int.toNat_natCast, List.getElem?_eq_getElem hil, Option.bind_some]
        have : (l[i].1 == q) = false := by simpa using hn
        rw [this, cond_false, w64 (by omega) (by omega)]; rfl
      · unfold L19_1_9
        rw [condT (by omega)]
        simp only [ixn, Int.toNat_natCast, List.getElem?_eq_getElem hlt, Option.bind_some]
        have : (l[l.findIdx fun p => p.1 == q].1 == q) = true := List.findIdx_getElem (w := hlt)
        rw [this, cond_true, hp, own _ _ _ _ (by have := hs p hm; omega)]; rfl
    rw [loop, hf]; rfl
  · have hno : ∀ x ∈ l, (x.1 == q) = false := fun x hx => by
      cases h : x.1 == q with
      | false => rfl
      | true => exact absurd ⟨x, hx, h⟩ he
    have hf : l.find? (fun p => p.1 == q) = none := by
      rw [List.find?_eq_none]; intro x hx; rw [hno x hx]; simp
    have loop : loopN (L19_1_9 100 q l) 100 0 = some (.inr ()) := by
      refine loop_go (fun i => (i : Int)) l.length rfl (by omega) (fun i hi => ?_) ?_
      · unfold L19_1_9
        rw [condT (by omega)]
        simp only [ixn, Int.toNat_natCast, List.getElem?_eq_getElem hi, Option.bind_some]
        rw [hno _ (List.getElem_mem hi), cond_false, w64 (by omega) (by omega)]; rfl
      · unfold L19_1_9
        rw [condF (by omega)]
    rw [loop, hf]; rfl
end Go.Proofs.Ytljbepjbecjpiaa.PureDrop

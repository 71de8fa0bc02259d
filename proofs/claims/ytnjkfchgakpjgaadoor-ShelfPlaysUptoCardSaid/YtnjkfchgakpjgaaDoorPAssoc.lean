/- Lists by key: set, delete, look up. -/
import Derived.Test.YtnjkfchgakpjgaaDoorPFd
namespace Go.Proofs.YtnjkfchgakpjgaaDoor.PAssoc
open Go.RowKit Go.Proofs.YtnjkfchgakpjgaaDoor.Mc Go.Proofs.YtnjkfchgakpjgaaDoor.PFd
set_option linter.unusedSimpArgs false
set_option linter.unusedVariables false
variable {α : Type}
theorem sEq_dec (a b : ByteArray) : sEq a b = decide (a = b) := beq_ba a b
theorem get_set (k k' : ByteArray) (v : α) : ∀ (es : List (ByteArray × α)), mget sEq (mset sEq es k v) k' = if k = k' then some v else mget sEq es k'
  | [] => by
    simp only [mset, mget, sEq_dec]
    by_cases h : k = k' <;> simp [h]
  | x :: es => by
    have ih := get_set k k' v es
    simp only [mset, sEq_dec]
    by_cases h : x.1 = k
    · simp only [decide_eq_true h, cond_true, mget, sEq_dec]
      by_cases h2 : k = k'
      · simp [h2]
      · have h3 : ¬ x.1 = k' := fun e => h2 (h.symm.trans e)
        simp [h2, h3]
    · simp only [decide_eq_false h, cond_false, mget, sEq_dec, ih]
      by_cases h2 : x.1 = k'
      · have h3 : ¬ k = k' := fun e => h (h2.trans e.symm)
        simp [h2, h3]
      · simp [h2]
/-- each key once -/
def ND (es : List (ByteArray × α)) : Prop := (es.map (·.1)).Nodup
theorem nd_nil : ND ([] : List (ByteArray × α)) := List.nodup_nil
theorem get_none (k : ByteArray) : ∀ (es : List (ByteArray × α)), mget sEq es k = none ↔ k ∉ es.map (·.1)
  | [] => by simp [mget]
  | x :: es => by
    have ih := get_none k es
    simp only [mget, sEq_dec, List.map_cons, List.mem_cons, not_or]
    by_cases h : x.1 = k
    · simp [h]
    · have h' : ¬ k = x.1 := fun e => h e.symm
      simp only [decide_eq_false h, cond_false, ih, h', not_false_eq_true, true_and]
theorem get_some_mem {k : ByteArray} {v : α} : ∀ {es : List (ByteArray × α)}, mget sEq es k = some v → (k, v) ∈ es
  | x :: es, h => by
    simp only [mget, sEq_dec] at h
    by_cases hx : x.1 = k
    · rw [decide_eq_true hx] at h
      cases h
      rw [← hx]; simp
    · rw [decide_eq_false hx] at h
      exact List.mem_cons_of_mem _ (get_some_mem h)
theorem mem_get {k : ByteArray} {v : α} : ∀ {es : List (ByteArray × α)}, ND es → (k, v) ∈ es → mget sEq es k = some v
  | x :: es, hn, h => by
    have hn' : x.1 ∉ es.map (·.1) ∧ (es.map (·.1)).Nodup := List.nodup_cons.1 hn
    simp only [mget, sEq_dec]
    rcases List.mem_cons.1 h with rfl | h
    · simp
    · have hne : ¬ x.1 = k := fun e => hn'.1 (e ▸ List.mem_map.2 ⟨_, h, rfl⟩)
      rw [decide_eq_false hne]
      exact mem_get hn'.2 h
theorem keys_set (k : ByteArray) (v : α) : ∀ (es : List (ByteArray × α)), (mset sEq es k v).map (·.1) = if k ∈ es.map (·.1) then es.map (·.1) else es.map (·.1) ++ [k]
  | [] => by simp [mset]
  | x :: es => by
    have ih := keys_set k v es
    simp only [mset, sEq_dec, List.map_cons, List.mem_cons]
    by_cases h : x.1 = k
    · simp [h]
    · have h' : ¬ k = x.1 := fun e => h e.symm
      simp only [decide_eq_false h, cond_false, List.map_cons, ih, h', false_or]
      split <;> simp
theorem nd_set {k : ByteArray} {v : α} {es : List (ByteArray × α)} (h : ND es) : ND (mset sEq es k v) := by
  unfold ND at h ⊢
  rw [keys_set]
  split
  · exact h
  · rename_i hk
    rw [List.nodup_append]
    refine ⟨h, by simp, fun a ha b hb => ?_⟩
    rw [List.mem_singleton] at hb
    subst hb
    rintro rfl
    exact hk ha
theorem keys_del (k : ByteArray) : ∀ (es : List (ByteArray × α)), (mdel sEq es k).map (·.1) = (es.map (·.1)).erase k
  | [] => rfl
  | x :: es => by
    have ih := keys_del k es
    simp only [mdel, sEq_dec, List.map_cons, List.erase_cons]
    by_cases h : x.1 = k
    · simp [h]
    · simp [h, ih]
theorem nd_del {k : ByteArray} {es : List (ByteArray × α)} (h : ND es) : ND (mdel sEq es k) := by
  unfold ND at h ⊢
  rw [keys_del]
  exact h.erase k
theorem get_del (k k' : ByteArray) : ∀ {es : List (ByteArray × α)}, ND es → mget sEq (mdel sEq es k) k' = if k = k' then none else mget sEq es k'
  | [], _ => by simp [mdel, mget]
  | x :: es, hn => by
    have hn' : x.1 ∉ es.map (·.1) ∧ (es.map (·.1)).Nodup := List.nodup_cons.1 hn
    have ih := get_del k k' (es := es) hn'.2
    simp only [mdel, sEq_dec]
    by_cases h : x.1 = k
    · simp only [decide_eq_true h, cond_true]
      by_cases h2 : k = k'
      · rw [if_pos h2, get_none]
        rw [← h2, ← h]; exact hn'.1
      · have h3 : ¬ x.1 = k' := fun e => h2 (h.symm.trans e)
        rw [if_neg h2]
        simp only [mget, sEq_dec, decide_eq_false h3, cond_false]
    · simp only [decide_eq_false h, cond_false, mget, sEq_dec, ih]
      by_cases h2 : x.1 = k'
      · have h3 : ¬ k = k' := fun e => h (h2.trans e.symm)
        simp [h2, h3]
      · simp [h2]
theorem len_set (k : ByteArray) (v : α) (es : List (ByteArray × α)) : (mset sEq es k v).length ≤ es.length + 1 := by
  have := congrArg List.length (keys_set k v es)
  rw [List.length_map] at this
  rw [this]
  split <;> simp
theorem len_del (k : ByteArray) (es : List (ByteArray × α)) : (mdel sEq es k).length ≤ es.length := by
  have := congrArg List.length (keys_del k es)
  rw [List.length_map] at this
  rw [this]
  have := List.length_erase_le (a := k) (l := es.map (·.1))
  rwa [List.length_map] at this
end Go.Proofs.YtnjkfchgakpjgaaDoor.PAssoc

/- Frames' bodies in a row. -/
import Derived.Test.YtlnadpijicfceaaDoorPJoin
namespace Go.Proofs.YtlnadpijicfceaaDoor.PFlat
open Go.RowKit Go.Proofs.YtlnadpijicfceaaDoor.Mc Go.Proofs.YtlnadpijicfceaaDoor.N Go.Proofs.YtlnadpijicfceaaDoor.Plain Go.Proofs.YtlnadpijicfceaaDoor.PJoin
set_option linter.unusedSimpArgs false
set_option linter.unusedVariables false
theorem app_nil (a : ByteArray) : a ++ (⟨#[]⟩ : ByteArray) = a := by apply ByteArray.ext; simp
theorem nil_app (a : ByteArray) : (⟨#[]⟩ : ByteArray) ++ a = a := by apply ByteArray.ext; simp
def flat : List Fr → ByteArray
  | [] => ⟨#[]⟩
  | f :: m => f.2.2.2 ++ flat m
theorem flat_nil : flat [] = ⟨#[]⟩ := rfl
theorem flat_cons (f : Fr) (m : List Fr) : flat (f :: m) = f.2.2.2 ++ flat m := rfl
theorem flat_go : ∀ (m : List Fr) (X : ByteArray), m.foldl (fun b f => b ++ f.2.2.2) X = X ++ flat m
  | [], X => by rw [List.foldl_nil, flat_nil, app_nil]
  | f :: m, X => by rw [List.foldl_cons, flat_go m, flat_cons, ByteArray.append_assoc]
theorem flat_app : ∀ (a b : List Fr), flat (a ++ b) = flat a ++ flat b
  | [], b => by rw [List.nil_append, flat_nil, nil_app]
  | f :: a, b => by rw [List.cons_append, flat_cons, flat_cons, flat_app a b, ByteArray.append_assoc]
theorem bodT_flat (l : List Fr) (i : Nat) : bodT l i = flat (l.take i) := by
  unfold bodT
  rw [flat_go, nil_app]
def siz (l : List Fr) : Nat := (l.map fun f => f.2.2.2.size).sum
theorem siz_app (a b : List Fr) : siz (a ++ b) = siz a + siz b := by unfold siz; rw [List.map_append, List.sum_append]
theorem siz_cons (f : Fr) (b : List Fr) : siz (f :: b) = f.2.2.2.size + siz b := by unfold siz; rw [List.map_cons, List.sum_cons]
theorem flat_size : ∀ (l : List Fr), (flat l).size = siz l
  | [] => rfl
  | f :: l => by rw [flat_cons, ByteArray.size_append, flat_size l, siz_cons]
theorem siz_take (l : List Fr) (i : Nat) : siz (l.take i) ≤ siz l := by
  have := siz_app (l.take i) (l.drop i)
  rw [List.take_append_drop] at this
  omega
theorem siz_drop (l : List Fr) (i : Nat) : siz (l.drop i) ≤ siz l := by
  have := siz_app (l.take i) (l.drop i)
  rw [List.take_append_drop] at this
  omega
theorem bodT_siz (l : List Fr) (i : Nat) : (bodT l i).size ≤ siz l := by
  rw [bodT_flat, flat_size]
  exact siz_take l i
theorem siz_all {l : List Fr} {M : Nat} (h : ∀ f ∈ l, f.2.2.2.size ≤ M) : siz l ≤ M * l.length := by
  induction l with
  | nil => exact Nat.le_refl _
  | cons f l ih =>
    have h1 := h f (by simp)
    have h2 := ih (fun g hg => h g (by simp [hg]))
    rw [siz_cons, List.length_cons, Nat.mul_add]
    omega
theorem siz_mem {l : List Fr} {f : Fr} (h : f ∈ l) : f.2.2.2.size ≤ siz l := by
  induction l with
  | nil => simp at h
  | cons g l ih =>
    rw [siz_cons]
    rcases List.mem_cons.1 h with rfl | h
    · omega
    · have := ih h; omega
theorem siz_set (l : List Fr) (i : Nat) (f : Fr) : siz (l.set i f) ≤ siz l + f.2.2.2.size := by
  induction l generalizing i with
  | nil => exact Nat.zero_le _
  | cons g l ih =>
    cases i with
    | zero => rw [List.set_cons_zero, siz_cons, siz_cons]; omega
    | succ i =>
      have := ih i
      rw [List.set_cons_succ, siz_cons, siz_cons]; omega
theorem split_at (l : List Fr) (i : Nat) (h : i < l.length) : l = l.take i ++ l[i] :: l.drop (i + 1) := by
  rw [← List.drop_eq_getElem_cons h, List.take_append_drop]
theorem set_at (l : List Fr) (i : Nat) (f : Fr) (h : i < l.length) : l.set i f = l.take i ++ f :: l.drop (i + 1) := by
  rw [List.set_eq_take_append_cons_drop, if_pos h]
end Go.Proofs.YtlnadpijicfceaaDoor.PFlat

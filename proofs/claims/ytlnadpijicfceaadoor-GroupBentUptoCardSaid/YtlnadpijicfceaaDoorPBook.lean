/- What the book's functions compute: Short, Texts, SameTexts, Writes, SameWrites. -/
import Derived.Test.YtlnadpijicfceaaDoorPureKeys
namespace Go.Proofs.YtlnadpijicfceaaDoor.PBook
open Go.RowKit Go.Proofs.YtlnadpijicfceaaDoor.Mc Go.Proofs.YtlnadpijicfceaaDoor.N Go.Proofs.YtlnadpijicfceaaDoor.Plain Go.Proofs.YtlnadpijicfceaaDoor.PureRune Go.Proofs.YtlnadpijicfceaaDoor.PureKeys
set_option linter.unusedSimpArgs false
set_option linter.unusedVariables false
theorem take_snoc1 {α : Type} {l : List α} {j : Nat} (h : j < l.length) : l.take (j + 1) = l.take j ++ [l[j]] := by
  rw [List.take_add_one, List.getElem?_eq_getElem h]; rfl
def short (s : ByteArray) (n : Nat) : ByteArray := s.extract 0 (min s.size n)
theorem short_size (s : ByteArray) (n : Nat) : (short s n).size ≤ n := by
  unfold short; rw [ByteArray.size_extract]; omega
theorem short_run (K : Nat) (s : ByteArray) (n : Nat) : F26 K s (n : Int) = some (short s n) := by
  unfold F26 short
  have e : (mn (s.size : Int) (n : Int)).toNat = min s.size n := by unfold mn; split <;> omega
  rw [grdT (by unfold bnds mn; split <;> exact decide_eq_true (by omega)), e]
abbrev Wr : Type := ByteArray × Bool × ByteArray
def sw (w : Wr) : Wr := (short w.1 60, w.2.1, short w.2.2 60)
theorem writes_run (K : Nat) (l : List Wr) (m : Nat) (hK : m < K) (hm : m ≤ 1000000) : F11 K l (m : Int) = some ((l.take m).map sw) := by
  unfold F11
  rw [loop_go (r := (l.take m).map sw) (fun i => ((i : Int), (l.take i).map sw)) (min m l.length) (by rfl) (by omega) ?_ ?_]
  · rfl
  · intro i hi
    have hil : i < l.length := by omega
    have h1 := short_run K l[i].1 60
    have h2 := short_run K l[i].2.2 60
    unfold L11_8
    simp only [ixn, List.getElem?_eq_getElem hil, Option.bind_some]
    rw [condT (by omega), decide_eq_true (by omega : (i : Int) < (m : Int)), Option.bind_some, cond_true, show F26 K l[i].1 60 = _ from h1, Option.bind_some, show F26 K l[i].2.2 60 = _ from h2, Option.bind_some, grdD (by simp only [List.length_map, List.length_take, List.length_singleton]; omega), w64 (by omega) (by omega), take_snoc1 hil, List.map_append]
    rfl
  · unfold L11_8
    have e : l.take (min m l.length) = l.take m := by
      rw [List.take_eq_take_iff]; omega
    rw [e]
    by_cases h : min m l.length < l.length
    · rw [condT (by omega), decide_eq_false (by omega)]; rfl
    · rw [condF (by omega)]; rfl
theorem sameW_run (K : Nat) (l : List Wr) (hK : l.length < K) (hl : l.length ≤ 1000000) : F48 K l l = some true := by
  unfold F48
  rw [show ((l.length : Int) != (l.length : Int)) = false by simp, cond_false]
  rw [loop_go (r := (.inr ())) (fun i => (i : Int)) l.length (by rfl) hK ?_ ?_]
  · rfl
  · intro i hi
    unfold L48_14
    simp only [ixn, Int.toNat_natCast, List.getElem?_eq_getElem hi, Option.bind_some]
    rw [condT (by omega), w64 (by omega) (by omega)]
    simp
  · unfold L48_14
    rw [condF (by omega)]
end Go.Proofs.YtlnadpijicfceaaDoor.PBook

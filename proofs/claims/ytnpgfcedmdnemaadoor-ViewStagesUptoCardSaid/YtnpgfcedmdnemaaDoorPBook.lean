/- What the book's functions compute: Short, Texts, SameTexts, Writes, SameWrites. -/
import Derived.Test.YtnpgfcedmdnemaaDoorPureKeys
namespace Go.Proofs.YtnpgfcedmdnemaaDoor.PBook
open Go.RowKit Go.Proofs.YtnpgfcedmdnemaaDoor.Mc Go.Proofs.YtnpgfcedmdnemaaDoor.N Go.Proofs.YtnpgfcedmdnemaaDoor.Plain Go.Proofs.YtnpgfcedmdnemaaDoor.PureRune Go.Proofs.YtnpgfcedmdnemaaDoor.PureKeys
set_option linter.unusedSimpArgs false
set_option linter.unusedVariables false
theorem take_snoc1 {α : Type} {l : List α} {j : Nat} (h : j < l.length) : l.take (j + 1) = l.take j ++ [l[j]] := by
  rw [List.take_add_one, List.getElem?_eq_getElem h]; rfl
def short (s : ByteArray) (n : Nat) : ByteArray := s.extract 0 (min s.size n)
theorem short_size (s : ByteArray) (n : Nat) : (short s n).size ≤ n := by
  unfold short; rw [ByteArray.size_extract]; omega
theorem short_run (K : Nat) (s : ByteArray) (n : Nat) : F33 K s (n : Int) = some (short s n) := by
  unfold F33 short
  have e : (mn (s.size : Int) (n : Int)).toNat = min s.size n := by unfold mn; split <;> omega
  rw [grdT (by unfold bnds mn; split <;> exact decide_eq_true (by omega)), e]
abbrev Wr : Type := ByteArray × Bool × ByteArray
def sw (w : Wr) : Wr := (short w.1 60, w.2.1, short w.2.2 60)
theorem sameW_run (K : Nat) (l : List Wr) (hK : l.length < K) (hl : l.length ≤ 1000000) : F17 K l l = some true := by
  unfold F17
  rw [show ((l.length : Int) != (l.length : Int)) = false by simp, cond_false]
  rw [loop_go (r := (.inr ())) (fun i => (i : Int)) l.length (by rfl) hK ?_ ?_]
  · rfl
  · intro i hi
    unfold L17_14
    simp only [ixn, Int.toNat_natCast, List.getElem?_eq_getElem hi, Option.bind_some]
    rw [condT (by omega), w64 (by omega) (by omega)]
    simp
  · unfold L17_14
    rw [condF (by omega)]
theorem sameW1_run (K : Nat) (l : List Wr) (hK : l.length < K) (hl : l.length ≤ 1000000) : F17_1 K l l = some true := by
  unfold F17_1
  rw [show ((l.length : Int) != (l.length : Int)) = false by simp, cond_false]
  rw [loop_go (r := (.inr ())) (fun i => (i : Int)) l.length (by rfl) hK ?_ ?_]
  · rfl
  · intro i hi
    unfold L17_1_14
    simp only [ixn, Int.toNat_natCast, List.getElem?_eq_getElem hi, Option.bind_some]
    rw [condT (by omega), w64 (by omega) (by omega)]
    simp
  · unfold L17_1_14
    rw [condF (by omega)]
theorem sameW2_run (K : Nat) (l : List Wr) (hK : l.length < K) (hl : l.length ≤ 1000000) : F17_2 K l l = some true := by
  unfold F17_2
  rw [show ((l.length : Int) != (l.length : Int)) = false by simp, cond_false]
  rw [loop_go (r := (.inr ())) (fun i => (i : Int)) l.length (by rfl) hK ?_ ?_]
  · rfl
  · intro i hi
    unfold L17_2_14
    simp only [ixn, Int.toNat_natCast, List.getElem?_eq_getElem hi, Option.bind_some]
    rw [condT (by omega), w64 (by omega) (by omega)]
    simp
  · unfold L17_2_14
    rw [condF (by omega)]
end Go.Proofs.YtnpgfcedmdnemaaDoor.PBook

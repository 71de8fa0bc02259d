/- JudgeNew's plain law. -/
import Derived.Test.YtobfoiomjfdjjaaDoorPSorted
namespace Go.Proofs.YtobfoiomjfdjjaaDoor.PureJudgeNew
open Go.RowKit Go.Proofs.YtobfoiomjfdjjaaDoor.Mc Go.Proofs.YtobfoiomjfdjjaaDoor.N Go.Proofs.YtobfoiomjfdjjaaDoor.Plain
set_option linter.unusedSimpArgs false
set_option linter.unusedVariables false
set_option maxRecDepth 100000
theorem sorted_nil (K : Nat) (hK : 2000000 ≤ K) : F26 K [] = some [] := by
  rw [PSorted.sorted_run K hK (l := []) (fun x hx => by simp at hx) (by simp)]
  have h : (PSorted.srt []).length = 0 := by have := PSorted.srt_len []; rw [List.length_nil] at this; omega
  rw [List.eq_nil_of_length_eq_zero h]
theorem keys_nil (K : Nat) (hK : 2000000 ≤ K) : F19 K [] = some ([], []) := by
  obtain ⟨q, rfl⟩ : ∃ q, K = q + 1 := ⟨K - 1, by omega⟩
  have h : F19 (q + 1) [] = (F26 (q + 1) []).bind fun y => some (y, []) := rfl
  rw [h, sorted_nil _ hK]
  rfl
theorem contents_nil (K : Nat) (hK : 2000000 ≤ K) (a b c : Int) (d e : Bool) (f : Int) (l : List (ByteArray × Bool × ByteArray)) (t : Int) (fr : Bool) (sp : Int) : F14 K a b c d e f l t fr sp [] = some ([], []) := by
  unfold F14
  rw [keys_nil K hK, Option.bind_some]
  obtain ⟨q, rfl⟩ : ∃ q, K = q + 1 := ⟨K - 1, by omega⟩
  rfl
theorem stands_nil (K : Nat) (hK : 2000000 ≤ K) (a b c : Int) : F27 K [] a b c false true 0 [] 0 false 0 [] = some (.inr (true, [], [])) := by
  unfold F27
  rw [contents_nil K hK, Option.bind_some]
  obtain ⟨q, rfl⟩ : ∃ q, K = q + 1 := ⟨K - 1, by omega⟩
  rfl
theorem open_run (K : Nat) (hK : 2000000 ≤ K) (a b c : Int) : F21 K 0 0 0 0 [] [] [] a b c false false 0 [] 0 false 0 [] = some (true, a, b, c, false, true, 0, [], 0, false, 0, []) := by
  unfold F21
  rw [stands_nil K hK]
  obtain ⟨q, rfl⟩ : ∃ q, K = q + 1 := ⟨K - 1, by omega⟩
  rfl
theorem see_open (K : Nat) (hK : 2000000 ≤ K) (a b c : Int) : F10 K 14 0 ByteArray.empty ByteArray.empty [] 0 [] 0 0 0 0 0 0 0 [] [] [] a b c false false 0 [] 0 false 0 [] = some (.inl (true, a, b, c, false, true, 0, [], 0, false, 0, [])) := by
  have h : F17 K 14 0 ByteArray.empty ByteArray.empty [] 0 [] 0 0 0 0 0 0 0 [] [] [] a b c false false 0 [] 0 false 0 [] = some (.inr (.inl (true, a, b, c, false, true, 0, [], 0, false, 0, []))) := by
    unfold F17
    rw [open_run K hK]
    rfl
  unfold F10
  rw [h]
  rfl
theorem see_begin (K : Nat) (a b c : Int) : F10 K 1 0 ByteArray.empty ByteArray.empty [] 0 [] 0 0 0 0 1 0 0 [] [] [] a b c false true 0 [] 0 false 0 [] = some (.inr (.inr (true, a, b, c, false, true, 1, [], 0, false, 0, 1, [], [], []))) := by kernel_rfl
theorem see_again (K : Nat) (a b c : Int) : F10_1 K 1 0 ByteArray.empty ByteArray.empty [] 0 [] 0 0 0 0 7 0 0 [] [] [] a b c false true 1 [] 0 false 0 1 [] [] [] = some (.inr (.inr (.inr (false, a, b, c, true, true, 2, [], 0, false, 0, 1, 2, [], [], [], [], [])))) := by kernel_rfl
theorem alive (K : Nat) (hK : 2000000 ≤ K) : F7 K = some true := by
  have h1 : F6 K 32 4 4 = some (.inr (32, 4, 4, false, false, 0, [], 0, false, 0, [])) := by kernel_rfl
  unfold F7
  rw [h1, Option.bind_some]
  simp only [sel, Option.bind_some]
  rw [see_open K hK, Option.bind_some]
  simp only [sel, Option.bind_some]
  rw [see_begin, Option.bind_some]
  simp only [sel, Option.bind_some]
  rw [see_again, Option.bind_some]
  rfl
theorem pick_some (K : Nat) (n m : Int) (h0 : 0 < m) (h1 : m ≤ 1000000000) : ∃ r, F11 K n m = some r := by
  unfold F11
  rw [grdT (by rw [bne_iff_ne]; omega)]
  by_cases h : n.tmod m < 0
  · rw [condT h]; exact ⟨_, rfl⟩
  · rw [condF h]; exact ⟨_, rfl⟩
theorem geom_some (K : Nat) (a b c : Int) : ∃ p n r, F5 K a b c = some (p, n, r) := by
  obtain ⟨r1, h1⟩ := pick_some K a 33 (by omega) (by omega)
  obtain ⟨r2, h2⟩ := pick_some K b 4 (by omega) (by omega)
  obtain ⟨r3, h3⟩ := pick_some K c 4 (by omega) (by omega)
  unfold F5
  rw [h1, h2, h3]
  exact ⟨_, _, _, rfl⟩
theorem right_some (K : Nat) (a b c : Int) : ∃ q, F12 K a b c = some q := by
  unfold F12
  generalize decide (32 ≤ a) = q1
  generalize decide (a ≤ 128) = q2
  generalize decide (3 ≤ b) = q3
  generalize decide (b ≤ 10) = q4
  generalize decide (4 ≤ c) = q5
  cases q1 <;> cases q2 <;> cases q3 <;> cases q4 <;> cases q5 <;> exact ⟨_, rfl⟩
theorem law (x1 : Int) (x2 : Int) (x3 : Int) (x4 : Bool) (g : gdT [.int .i64, .int .i64, .int .i64, .bool] (x1, x2, x3, x4)) : ∃ k, F4 k x1 x2 x3 x4 = some true := by
  refine ⟨2000000, ?_⟩
  have hK : 2000000 ≤ 2000000 := Nat.le_refl _
  have hy : ∃ a b c, ((cond x4 ((F5 2000000 x1 x2 x3).bind fun y2 => some (y2.1, y2.2.1, y2.2.2)) (some (x1, x2, x3)) : Option (Int × Int × Int))) = some (a, b, c) := by
    cases x4 with
    | true =>
      obtain ⟨p, n, r, h⟩ := geom_some 2000000 x1 x2 x3
      rw [h]
      exact ⟨_, _, _, rfl⟩
    | false => exact ⟨_, _, _, rfl⟩
  obtain ⟨a, b, c, hy⟩ := hy
  unfold F4
  rw [hy, Option.bind_some]
  obtain ⟨q, hq⟩ := right_some 2000000 a b c
  have he : F15 2000000 a b c = some q := hq
  have ha := alive 2000000 hK
  cases q with
  | false =>
    have hn : F6 2000000 a b c = some (.inl ()) := by
      unfold F6
      rw [he]; rfl
    simp only []
    rw [hn, Option.bind_some]
    simp only [sel, Option.bind_some]
    rw [ha, hq]
    rfl
  | true =>
    have hn : F6 2000000 a b c = some (.inr (a, b, c, false, false, 0, [], 0, false, 0, [])) := by
      unfold F6
      rw [he]; rfl
    simp only []
    rw [hn, Option.bind_some]
    simp only [sel, Option.bind_some]
    rw [ha, hq]
    have h1 : F13 2000000 a b c false false 0 [] 0 false 0 [] = some 0 := rfl
    have h2 : F10 2000000 7 0 ByteArray.empty ByteArray.empty [] 0 [] 0 0 0 6 0 0 0 [] [] [] a b c false false 0 [] 0 false 0 [] = some (.inl (true, a, b, c, false, false, 0, [], 0, false, 0, [])) := by kernel_rfl
    have h3 := contents_nil 2000000 hK a b c false false 0 [] 0 false 0
    simp only [Option.bind_some, Bool.not_true, cond_false, Bool.not_false]
    rw [h1, Option.bind_some, h3, Option.bind_some]
    simp only [List.length_nil]
    rw [h2]
    rfl
end Go.Proofs.YtobfoiomjfdjjaaDoor.PureJudgeNew

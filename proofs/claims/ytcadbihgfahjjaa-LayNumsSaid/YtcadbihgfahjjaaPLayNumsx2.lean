-- PRINTED BY print.sh 35421559b90ae4d0a3588c463048766b98c2df88dd9212a6774a882060cdf62d: not written by this session
import Derived.Test.YtcadbihgfahjjaaPLayNumsx0
import Derived.Test.YtcadbihgfahjjaaPLayNumsx1
namespace Go.Proofs.Ytcadbihgfahjjaa.PLayNums
open Go.RowKit Go.Proofs.YtcadbihgfahjjaaW.PrintWords Go.Proofs.YtcadbihgfahjjaaW.PrintLast Go.Proofs.YtcadbihgfahjjaaW.PrintMore
attribute [local go_sem] max2_int min2_int max_two min_two max_three min_three max_four min_four   -- for this text's walks alone
set_option linter.unusedVariables false
set_option linter.unusedSimpArgs false

/-! ### cachepotref1_GetNum: function 15 -/
mutual
def cachepotref1_GetNum.j0 : Nat → ByteArray → Int → Bool → Option (Int × Int × Int)
  | 0, _, _, _ => none
  | k + 1, x0, x1, x17 => if x17 = true then (some (0, 0, 1)) else (cachepotref1_GetNum.l0 k x0 x1 0 0)
def cachepotref1_GetNum.l0 : Nat → ByteArray → Int → Int → Int → Option (Int × Int × Int)
  | 0, _, _, _, _ => none
  | k + 1, x0, x1, x7, x8 => if x8 < 5 then (if x1 ≥ (x0.size : Int) then (some (0, 0, 3)) else (if 0 ≤ x1 then (if x1 < (x0.size : Int) then (if x8 = 4 then (if (bt x0 x1) > 15 then (cachepotref1_GetNum.j2 k x0 (wrap64 (x1 + 1)) x7 x8 (bt x0 x1) true) else (if (bt x0 x1) = 0 then (cachepotref1_GetNum.j2 k x0 (wrap64 (x1 + 1)) x7 x8 (bt x0 x1) (decide (x8 > 0))) else (cachepotref1_GetNum.j2 k x0 (wrap64 (x1 + 1)) x7 x8 (bt x0 x1) false))) else (if (bt x0 x1) = 0 then (cachepotref1_GetNum.j2 k x0 (wrap64 (x1 + 1)) x7 x8 (bt x0 x1) (decide (x8 > 0))) else (cachepotref1_GetNum.j2 k x0 (wrap64 (x1 + 1)) x7 x8 (bt x0 x1) false))) else (none)) else (none))) else (some (x7, x1, 0))
def cachepotref1_GetNum.j2 : Nat → ByteArray → Int → Int → Int → Int → Bool → Option (Int × Int × Int)
  | 0, _, _, _, _, _, _ => none
  | k + 1, x0, x1, x7, x8, x9, x44 => if x44 = true then (some (0, 0, 2)) else (if 0 ≤ (IntKind.u64.wrap (wrap64 (7 * x8))) then (if x9 < 128 then (some (Go.bits .or .u32 x7 (shl .u32 ((Int.tmod x9 128) % 4294967296) (IntKind.u64.wrap (wrap64 (7 * x8)))), x1, 0)) else (cachepotref1_GetNum.l0 k x0 x1 (Go.bits .or .u32 x7 (shl .u32 ((Int.tmod x9 128) % 4294967296) (IntKind.u64.wrap (wrap64 (7 * x8))))) (wrap64 (x8 + 1)))) else (none))
end
def cachepotref1_GetNum.f (k : Nat) (a0 : ByteArray) (a1 : Int) : Option (Int × Int × Int) := if a1 < 0 then (cachepotref1_GetNum.j0 k a0 a1 true) else (cachepotref1_GetNum.j0 k a0 a1 (decide (a1 > (a0.size : Int))))
theorem cachepotref1_GetNum.mono_l : ∀ k, (∀ y0 y1 y2, LeO (cachepotref1_GetNum.j0 k y0 y1 y2) (cachepotref1_GetNum.j0 (k + 1) y0 y1 y2)) ∧ (∀ y0 y1 y2 y3, LeO (cachepotref1_GetNum.l0 k y0 y1 y2 y3) (cachepotref1_GetNum.l0 (k + 1) y0 y1 y2 y3)) ∧ (∀ y0 y1 y2 y3 y4 y5, LeO (cachepotref1_GetNum.j2 k y0 y1 y2 y3 y4 y5) (cachepotref1_GetNum.j2 (k + 1) y0 y1 y2 y3 y4 y5))
  | 0 => ⟨fun _ _ _ r h => by simp [cachepotref1_GetNum.j0] at h, fun _ _ _ _ r h => by simp [cachepotref1_GetNum.l0] at h, fun _ _ _ _ _ _ r h => by simp [cachepotref1_GetNum.j2] at h⟩
  | k + 1 => by
    obtain ⟨ih0, ih1, ih2⟩ := cachepotref1_GetNum.mono_l k
    refine ⟨?_, ?_, ?_⟩
    · intro y0 y1 y2
      unfold cachepotref1_GetNum.j0
      repeat' first
      | (with_reducible exact ih0 _ _ _)
      | (with_reducible exact ih1 _ _ _ _)
      | (with_reducible exact ih2 _ _ _ _ _ _)
      | (with_reducible exact LeO.refl _)
      | (with_reducible exact LeO.none _)
      | (with_reducible refine LeO.ite ?_ ?_)
      | (with_reducible refine LeO.bind ?_ (fun _ => ?_))
      | exact ih0 _ _ _
      | exact ih1 _ _ _ _
      | exact ih2 _ _ _ _ _ _
      | exact LeO.none _
      | refine LeO.ite ?_ ?_
      | refine LeO.bind ?_ (fun _ => ?_)
    · intro y0 y1 y2 y3
      unfold cachepotref1_GetNum.l0
      repeat' first
      | (with_reducible exact ih0 _ _ _)
      | (with_reducible exact ih1 _ _ _ _)
      | (with_reducible exact ih2 _ _ _ _ _ _)
      | (with_reducible exact LeO.refl _)
      | (with_reducible exact LeO.none _)
      | (with_reducible refine LeO.ite ?_ ?_)
      | (with_reducible refine LeO.bind ?_ (fun _ => ?_))
      | exact ih0 _ _ _
      | exact ih1 _ _ _ _
      | exact ih2 _ _ _ _ _ _
      | exact LeO.none _
      | refine LeO.ite ?_ ?_
      | refine LeO.bind ?_ (fun _ => ?_)
    · intro y0 y1 y2 y3 y4 y5
      unfold cachepotref1_GetNum.j2
      repeat' first
      | (with_reducible exact ih0 _ _ _)
      | (with_reducible exact ih1 _ _ _ _)
      | (with_reducible exact ih2 _ _ _ _ _ _)
      | (with_reducible exact LeO.refl _)
      | (with_reducible exact LeO.none _)
      | (with_reducible refine LeO.ite ?_ ?_)
      | (with_reducible refine LeO.bind ?_ (fun _ => ?_))
      | exact ih0 _ _ _
      | exact ih1 _ _ _ _
      | exact ih2 _ _ _ _ _ _
      | exact LeO.none _
      | refine LeO.ite ?_ ?_
      | refine LeO.bind ?_ (fun _ => ?_)
theorem cachepotref1_GetNum.mono : ∀ a0 a1 k, LeO (cachepotref1_GetNum.f k a0 a1) (cachepotref1_GetNum.f (k + 1) a0 a1) := by
  intro a0 a1 k
  obtain ⟨ih0, ih1, ih2⟩ := cachepotref1_GetNum.mono_l k
  unfold cachepotref1_GetNum.f
  repeat' first
      | (with_reducible exact ih0 _ _ _)
      | (with_reducible exact ih1 _ _ _ _)
      | (with_reducible exact ih2 _ _ _ _ _ _)
      | (with_reducible exact LeO.refl _)
      | (with_reducible exact LeO.none _)
      | (with_reducible refine LeO.ite ?_ ?_)
      | (with_reducible refine LeO.bind ?_ (fun _ => ?_))
      | exact ih0 _ _ _
      | exact ih1 _ _ _ _
      | exact ih2 _ _ _ _ _ _
      | exact LeO.none _
      | refine LeO.ite ?_ ?_
      | refine LeO.bind ?_ (fun _ => ?_)
set_option maxHeartbeats 8000000 in
set_option maxRecDepth 100000 in
theorem cachepotref1_GetNum.calls (k : Nat) (a0 : ByteArray) (a1 : Int) (r1 : Int) (r2 : Int) (r3 : Int) (w : World) (h : cachepotref1_GetNum.f k a0 a1 = some (r1, r2, r3)) :
    Calls Try.prog 15 #[.string a0, .int .i64 a1] w fun e w' => e = .returned (.tuple #[.int .u32 r1, .int .i64 r2, .int .i64 r3]) ∧ Drawn0 w w' := by
  have H : (if a1 < 0 then (cachepotref1_GetNum.j0 k a0 a1 true) else (cachepotref1_GetNum.j0 k a0 a1 (decide (a1 > (a0.size : Int))))) = some (r1, r2, r3) := h
  clear h
  have HC3 := Aside0.mk H
  clear H
  go_enter Try.func15, Try.ntmps15
  go_upto_region 1 with (fail)
  go_cut [17] (fun v17 wc => ∃ (kq : Nat) (x17_2 : Bool), v17 = .bool x17_2 ∧ Aside0 (cachepotref1_GetNum.j0 kq a0 a1 x17_2 = some (r1, r2, r3)) ∧ Aside0 (kq ≤ k) ∧ Drawn0 w wc)
  case first =>
    have H := HC3.out
    clear HC3
    by_cases c4 : a1 < 0
    · rw [if_pos c4] at H
      have c4b0 : decide (a1 < 0) = true := decide_eq_true c4
      clear c4
      (first | rw [c4b0] | (simp only [i64_w, i32_w]; rw [c4b0]) | skip)
      have H' := Aside0.mk H
      clear H
      go_wp2
      go_meet
      case rel => exact ⟨_, (true), (by first | rfl | (simp; done) | (simp [*]; done)), H', ⟨by first | omega | exact Nat.le_refl _⟩, by repeat (first | exact Drawn0.refl _ | apply Drawn0.step)⟩
    · rw [if_neg c4] at H
      have c4b0 : decide (a1 < 0) = false := decide_eq_false c4
      clear c4
      (first | rw [c4b0] | (simp only [i64_w, i32_w]; rw [c4b0]) | skip)
      have H' := Aside0.mk H
      clear H
      go_wp2
      go_meet
      case rel => exact ⟨_, (decide (a1 > (a0.size : Int))), (by first | rfl | (simp; done) | (simp [*]; done)), H', ⟨by first | omega | exact Nat.le_refl _⟩, by repeat (first | exact Drawn0.refl _ | apply Drawn0.step)⟩
  case rest =>
    clear HC3
    try clear c1
    try clear p2
    try clear c4
    try clear c4b0
    obtain ⟨kq, x17_2, rfl, HA, HJ2, ⟨mc2, rfl⟩⟩ := hcut
    cases kq with
    | zero => exact absurd HA.out (by simp [cachepotref1_GetNum.j0])
    | succ kj2 =>
      have H := HA.out
      clear HA
      simp only [cachepotref1_GetNum.j0] at H
      by_cases c5 : x17_2 = true
      · subst c5
        have H1 : (some (0, 0, 1)) = some (r1, r2, r3) := by rw [if_pos rfl] at H; exact H
        clear H
        have H := H1
        clear H1
        simp only [Option.some.injEq, Prod.mk.injEq] at H
        obtain ⟨rfl, rfl, rfl⟩ := H
        go_wp2
        go_ret3
        exact ⟨by first | rfl | (simp; done) | (simp [*]; done), by repeat (first | exact Drawn0.refl _ | apply Drawn0.step)⟩
      · replace c5 := Bool.eq_false_iff.mpr c5
        subst c5
        have H1 : (cachepotref1_GetNum.l0 kj2 a0 a1 0 0) = some (r1, r2, r3) := by rw [if_neg (show ¬ (false = true) by decide)] at H; exact H
        clear H
        have H := H1
        clear H1
        have H' := Aside0.mk H
        clear H
        go_wp2
        go_loopg [1, 7, 8] kj2 (fun kq v1 v7 v8 w' => ∃ (x1_2 : Int) (x7_2 : Int) (x8_2 : Int), v1 = .int .i64 x1_2 ∧ v7 = .int .u32 x7_2 ∧ v8 = .int .i64 x8_2 ∧ Aside0 (cachepotref1_GetNum.l0 kq a0 x1_2 x7_2 x8_2 = some (r1, r2, r3)) ∧ Aside0 (kq ≤ kj2) ∧ Drawn0 w w')
        case atStart => exact ⟨(a1), (0), (0), (by first | rfl | (simp; done) | (simp [*]; done)), (by first | rfl | (simp; done) | (simp [*]; done)), (by first | rfl | (simp; done) | (simp [*]; done)), H', ⟨Nat.le_refl _⟩, by repeat (first | exact Drawn0.refl _ | apply Drawn0.step)⟩
        case round =>
          clear H'
          try clear c1
          try clear c2
          try clear p2
          try clear c4
          try clear c4b0
          try clear c5
          try clear p2
          obtain ⟨x1_2, x7_2, x8_2, rfl, rfl, rfl, HA, HK2, ⟨m2, rfl⟩⟩ := hrel
          cases gk with
          | zero => exact absurd HA.out (by simp [cachepotref1_GetNum.l0])
          | succ k2 =>
            have H := HA.out
            clear HA
            simp only [cachepotref1_GetNum.l0] at H
            by_cases c6 : x8_2 < 5
            · rw [if_pos c6] at H
              have c6b0 : decide (x8_2 < 5) = true := decide_eq_true c6
              clear c6
              by_cases c7 : x1_2 ≥ (a0.size : Int)
              · rw [if_pos c7] at H
                have c7b0 : decide ((a0.size : Int) ≤ x1_2) = true := decide_eq_true c7
                clear c7
                simp only [Option.some.injEq, Prod.mk.injEq] at H
                obtain ⟨rfl, rfl, rfl⟩ := H
                go_wp2
                go_ret3
                exact ⟨by first | rfl | (simp; done) | (simp [*]; done), by repeat (first | exact Drawn0.refl _ | apply Drawn0.step)⟩
              · rw [if_neg c7] at H
                have c7b0 : decide ((a0.size : Int) ≤ x1_2) = false := decide_eq_false c7
                clear c7
                by_cases c8 : 0 ≤ x1_2
                · rw [if_pos c8] at H
                  have c8b0 : decide (0 ≤ x1_2) = true := decide_eq_true c8
                  clear c8
                  by_cases c9 : x1_2 < (a0.size : Int)
                  · rw [if_pos c9] at H
                    have c9b0 : decide (x1_2 < (a0.size : Int)) = true := decide_eq_true c9
                    clear c9
                    have HC11 := Aside0.mk H
                    clear H
                    have p10 : 0 ≤ (x1_2 : Int) := of_decide_eq_true (by first | (with_reducible assumption) | assumption)
                    have q10 : x1_2 < (a0.size : Int) := of_decide_eq_true (by first | (with_reducible assumption) | assumption)
                    have hx10 := bt_at a0 x1_2
                    replace p10 := eq_true p10
                    replace q10 := eq_true q10
                    go_upto_region 11 with (fail)
                    go_cut [44] (fun v44 wc => ∃ (kq : Nat) (x44_10 : Bool), v44 = .bool x44_10 ∧ Aside0 (cachepotref1_GetNum.j2 kq a0 (wrap64 (x1_2 + 1)) x7_2 x8_2 (bt a0 x1_2) x44_10 = some (r1, r2, r3)) ∧ Aside0 (kq ≤ k2) ∧ Drawn0 w wc)
                    case first =>
                      have H := HC11.out
                      clear HC11
                      by_cases c12 : x8_2 = 4
                      · rw [if_pos c12] at H
                        have c12b0 : (x8_2 == 4) = true := beq_iff_eq.mpr c12
                        have c12b1 : (x8_2 != 4) = false := bne_eq_false_iff_eq.mpr c12
                        clear c12
                        (first | rw [c12b0] | (simp only [i64_w, i32_w]; rw [c12b0]) | skip)
                        by_cases c13 : (bt a0 x1_2) > 15
                        · rw [if_pos c13] at H
                          have c13b0 : decide (15 < (bt a0 x1_2)) = true := decide_eq_true c13
                          clear c13
                          have H' := Aside0.mk H
                          clear H
                          go_wp2
                          go_meet
                          case rel => exact ⟨_, (true), (by first | rfl | (simp; done) | (simp [*]; done)), H', ⟨by have := HJ2.out; have := HK2.out; first | omega | exact Nat.le_refl _⟩, by repeat (first | exact Drawn0.refl _ | apply Drawn0.step)⟩
                        · rw [if_neg c13] at H
                          have c13b0 : decide (15 < (bt a0 x1_2)) = false := decide_eq_false c13
                          clear c13
                          by_cases c14 : (bt a0 x1_2) = 0
                          · rw [if_pos c14] at H
                            have c14b0 : ((bt a0 x1_2) == 0) = true := beq_iff_eq.mpr c14
                            have c14b1 : ((bt a0 x1_2) != 0) = false := bne_eq_false_iff_eq.mpr c14
                            clear c14
                            have H' := Aside0.mk H
                            clear H
                            go_wp2
                            go_meet
                            case rel => exact ⟨_, (decide (x8_2 > 0)), (by first | rfl | (simp; done) | (simp [*]; done)), H', ⟨by have := HJ2.out; have := HK2.out; first | omega | exact Nat.le_refl _⟩, by repeat (first | exact Drawn0.refl _ | apply Drawn0.step)⟩
                          · rw [if_neg c14] at H
                            have c14b0 : ((bt a0 x1_2) == 0) = false := beq_eq_false_iff_ne.mpr c14
                            have c14b1 : ((bt a0 x1_2) != 0) = true := bne_iff_ne.mpr c14
                            have H' := Aside0.mk H
                            clear H
                            go_wp2
                            go_meet
                            case rel => exact ⟨_, (false), (by first | rfl | (simp; done) | (simp [*]; done)), H', ⟨by have := HJ2.out; have := HK2.out; first | omega | exact Nat.le_refl _⟩, by repeat (first | exact Drawn0.refl _ | apply Drawn0.step)⟩
                      · rw [if_neg c12] at H
                        have c12b0 : (x8_2 == 4) = false := beq_eq_false_iff_ne.mpr c12
                        have c12b1 : (x8_2 != 4) = true := bne_iff_ne.mpr c12
                        (first | rw [c12b0] | (simp only [i64_w, i32_w]; rw [c12b0]) | skip)
                        by_cases c15 : (bt a0 x1_2) = 0
                        · rw [if_pos c15] at H
                          have c15b0 : ((bt a0 x1_2) == 0) = true := beq_iff_eq.mpr c15
                          have c15b1 : ((bt a0 x1_2) != 0) = false := bne_eq_false_iff_eq.mpr c15
                          clear c15
                          have H' := Aside0.mk H
                          clear H
                          go_wp2
                          go_meet
                          case rel => exact ⟨_, (decide (x8_2 > 0)), (by first | rfl | (simp; done) | (simp [*]; done)), H', ⟨by have := HJ2.out; have := HK2.out; first | omega | exact Nat.le_refl _⟩, by repeat (first | exact Drawn0.refl _ | apply Drawn0.step)⟩
                        · rw [if_neg c15] at H
                          have c15b0 : ((bt a0 x1_2) == 0) = false := beq_eq_false_iff_ne.mpr c15
                          have c15b1 : ((bt a0 x1_2) != 0) = true := bne_iff_ne.mpr c15
                          have H' := Aside0.mk H
                          clear H
                          go_wp2
                          go_meet
                          case rel => exact ⟨_, (false), (by first | rfl | (simp; done) | (simp [*]; done)), H', ⟨by have := HJ2.out; have := HK2.out; first | omega | exact Nat.le_refl _⟩, by repeat (first | exact Drawn0.refl _ | apply Drawn0.step)⟩
                    case rest =>
                      clear HC11
                      try clear c1
                      try clear p1
                      try clear q1
                      try clear hx1
                      try clear c2
                      try clear p2
                      try clear c4
                      try clear c4b0
                      try clear c5
                      try clear c6
                      try clear c6b0
                      try clear p6
                      try clear c7
                      try clear c7b0
                      try clear c8
                      try clear c8b0
                      try clear c9
                      try clear c9b0
                      try clear p10
                      try clear q10
                      try clear hx10
                      try clear c12
                      try clear c12b0
                      try clear c12b1
                      try clear c13
                      try clear c13b0
                      try clear c14
                      try clear c14b0
                      try clear c14b1
                      try clear c15
                      try clear c15b0
                      try clear c15b1
                      try clear p10
                      try clear p2
                      try clear q10
                      obtain ⟨kq, x44_10, rfl, HA, HJ10, ⟨mc10, rfl⟩⟩ := hcut
                      cases kq with
                      | zero => exact absurd HA.out (by simp [cachepotref1_GetNum.j2])
                      | succ kj10 =>
                        have H := HA.out
                        clear HA
                        simp only [cachepotref1_GetNum.j2] at H
                        by_cases c16 : x44_10 = true
                        · subst c16
                          have H1 : (some (0, 0, 2)) = some (r1, r2, r3) := by rw [if_pos rfl] at H; exact H
                          clear H
                          have H := H1
                          clear H1
                          simp only [Option.some.injEq, Prod.mk.injEq] at H
                          obtain ⟨rfl, rfl, rfl⟩ := H
                          go_wp2
                          go_ret3
                          exact ⟨by first | rfl | (simp; done) | (simp [*]; done), by repeat (first | exact Drawn0.refl _ | apply Drawn0.step)⟩
                        · replace c16 := Bool.eq_false_iff.mpr c16
                          subst c16
                          have H1 : (if 0 ≤ (IntKind.u64.wrap (wrap64 (7 * x8_2))) then (if (bt a0 x1_2) < 128 then (some (Go.bits .or .u32 x7_2 (shl .u32 ((Int.tmod (bt a0 x1_2) 128) % 4294967296) (IntKind.u64.wrap (wrap64 (7 * x8_2)))), (wrap64 (x1_2 + 1)), 0)) else (cachepotref1_GetNum.l0 kj10 a0 (wrap64 (x1_2 + 1)) (Go.bits .or .u32 x7_2 (shl .u32 ((Int.tmod (bt a0 x1_2) 128) % 4294967296) (IntKind.u64.wrap (wrap64 (7 * x8_2))))) (wrap64 (x8_2 + 1)))) else (none)) = some (r1, r2, r3) := by rw [if_neg (show ¬ (false = true) by decide)] at H; exact H
                          clear H
                          have H := H1
                          clear H1
                          obtain ⟨ji17, hji17⟩ : ∃ j_ : Int, (IntKind.u64.wrap (wrap64 (7 * x8_2))) = j_ := ⟨_, rfl⟩
                          replace H : (if 0 ≤ (ji17) then (if (bt a0 x1_2) < 128 then (some (Go.bits .or .u32 x7_2 (shl .u32 ((Int.tmod (bt a0 x1_2) 128) % 4294967296) (ji17)), (wrap64 (x1_2 + 1)), 0)) else (cachepotref1_GetNum.l0 kj10 a0 (wrap64 (x1_2 + 1)) (Go.bits .or .u32 x7_2 (shl .u32 ((Int.tmod (bt a0 x1_2) 128) % 4294967296) (ji17))) (wrap64 (x8_2 + 1)))) else (none)) = some (r1, r2, r3) := by first | (rw [hji17] at H; exact H) | (simp only [hji17] at H ⊢; exact H)
                          by_cases c18 : 0 ≤ (ji17)
                          · rw [if_pos c18] at H
                            have c18b0 := eq_true c18
                            have c18b1 : decide (0 ≤ (ji17)) = true := decide_eq_true c18
                            clear c18
                            obtain ⟨ji19, hji19⟩ : ∃ j_ : Int, (shl .u32 ((Int.tmod (bt a0 x1_2) 128) % 4294967296) (ji17)) = j_ := ⟨_, rfl⟩
                            replace H : (if (bt a0 x1_2) < 128 then (some (Go.bits .or .u32 x7_2 (ji19), (wrap64 (x1_2 + 1)), 0)) else (cachepotref1_GetNum.l0 kj10 a0 (wrap64 (x1_2 + 1)) (Go.bits .or .u32 x7_2 (ji19)) (wrap64 (x8_2 + 1)))) = some (r1, r2, r3) := by first | (rw [hji19] at H; exact H) | (simp only [hji19] at H ⊢; exact H)
                            have hji19_ : (IntKind.u32.wrap (((Int.tmod (bt a0 x1_2) 128) % 4294967296) * 2 ^ min (ji17).toNat 32)) = ji19 := hji19
                            have hji19z : (ji17) ≤ 32 → (IntKind.u32.wrap (((Int.tmod (bt a0 x1_2) 128) % 4294967296) * 2 ^ (ji17).toNat)) = ji19 := shl_small hji19
                            by_cases c20 : (bt a0 x1_2) < 128
                            · rw [if_pos c20] at H
                              have c20b0 : decide ((bt a0 x1_2) < 128) = true := decide_eq_true c20
                              clear c20
                              simp only [Option.some.injEq, Prod.mk.injEq] at H
                              obtain ⟨rfl, rfl, rfl⟩ := H
                              go_wp2
                              go_ret3
                              exact ⟨by first | rfl | (simp; done) | (simp only [← hji17, ← hji19] <;> (first | rfl | simp)) | (simp [*]; done), by repeat (first | exact Drawn0.refl _ | apply Drawn0.step)⟩
                            · rw [if_neg c20] at H
                              have c20b0 : decide ((bt a0 x1_2) < 128) = false := decide_eq_false c20
                              clear c20
                              have H' := Aside0.mk H
                              clear H
                              go_wp2
                              go_roundg kj10
                              case measure => have := HJ2.out; have := HK2.out; have := HJ10.out; omega
                              case rel => exact ⟨((wrap64 (x1_2 + 1))), (Go.bits .or .u32 x7_2 (ji19)), (wrap64 (x8_2 + 1)), (by first | rfl | (simp; done) | (simp [*]; done)), (by first | rfl | (simp; done) | (simp only [← hji19] <;> (first | rfl | simp)) | (simp [*]; done)), (by first | rfl | (simp; done) | (simp [*]; done)), H', ⟨by have := HJ2.out; have := HK2.out; have := HJ10.out; omega⟩, by repeat (first | exact Drawn0.refl _ | apply Drawn0.step)⟩
                          · rw [if_neg c18] at H
                            exact absurd H (by simp)
                  · rw [if_neg c9] at H
                    exact absurd H (by simp)
                · rw [if_neg c8] at H
                  exact absurd H (by simp)
            · rw [if_neg c6] at H
              have c6b0 : decide (x8_2 < 5) = false := decide_eq_false c6
              clear c6
              simp only [Option.some.injEq, Prod.mk.injEq] at H
              obtain ⟨rfl, rfl, rfl⟩ := H
              go_wp2
              go_ret3
              exact ⟨by first | rfl | (simp; done) | (simp [*]; done), by repeat (first | exact Drawn0.refl _ | apply Drawn0.step)⟩

/-! ### cachepotlaw4_LayNums: function 4 -/
def cachepotlaw4_LayNums.f (k : Nat) (a0 : ByteArray) (a1 : Int) : Option (Bool) := (lay_GetNum.f k a0 a1).bind fun bt113 => ((cachepotref1_GetNum.f k a0 a1).bind fun bt116 => ((cachepotlaw4_alive.f k).bind fun t119 => (if t119 = true then (if bt113.1 = bt116.1 then (if bt113.2.1 = bt116.2.1 then (some (bt113.2.2 == bt116.2.2)) else (some false)) else (some false)) else (some false))))
theorem cachepotlaw4_LayNums.mono : ∀ a0 a1 k, LeO (cachepotlaw4_LayNums.f k a0 a1) (cachepotlaw4_LayNums.f (k + 1) a0 a1) := by
  intro a0 a1 k
  unfold cachepotlaw4_LayNums.f
  repeat' first
      | (with_reducible exact cachepotlaw4_alive.mono _)
      | (with_reducible exact cachepotref1_GetNum.mono _ _ _)
      | (with_reducible exact lay_GetNum.mono _ _ _)
      | (with_reducible exact LeO.refl _)
      | (with_reducible exact LeO.none _)
      | (with_reducible refine LeO.ite ?_ ?_)
      | (with_reducible refine LeO.bind ?_ (fun _ => ?_))
      | exact cachepotlaw4_alive.mono _
      | exact cachepotref1_GetNum.mono _ _ _
      | exact lay_GetNum.mono _ _ _
      | exact LeO.none _
      | refine LeO.ite ?_ ?_
      | refine LeO.bind ?_ (fun _ => ?_)
set_option maxHeartbeats 8000000 in
set_option maxRecDepth 100000 in
theorem cachepotlaw4_LayNums.calls (k : Nat) (a0 : ByteArray) (a1 : Int) (r : Bool) (w : World) (h : cachepotlaw4_LayNums.f k a0 a1 = some r) :
    Calls Try.prog 4 #[.string a0, .int .i64 a1] w fun e w' => e = .returned (.bool r) ∧ Below w.heap.size w w' := by
  have HB := Aside0.mk (Below.refl w.heap.size w)
  have H : ((lay_GetNum.f k a0 a1).bind fun bt113 => ((cachepotref1_GetNum.f k a0 a1).bind fun bt116 => ((cachepotlaw4_alive.f k).bind fun t119 => (if t119 = true then (if bt113.1 = bt116.1 then (if bt113.2.1 = bt116.2.1 then (some (bt113.2.2 == bt116.2.2)) else (some false)) else (some false)) else (some false))))) = some r := h
  clear h
  replace H := Option.bind_eq_some_iff.mp H
  obtain ⟨⟨t113, t114, t115⟩, A30, H⟩ := H
  replace H : ((cachepotref1_GetNum.f k a0 a1).bind fun bt116 => ((cachepotlaw4_alive.f k).bind fun t119 => (if t119 = true then (if t113 = bt116.1 then (if t114 = bt116.2.1 then (some (t115 == bt116.2.2)) else (some false)) else (some false)) else (some false)))) = some r := H
  have A3 := Aside0.mk A30
  clear A30
  replace H := Option.bind_eq_some_iff.mp H
  obtain ⟨⟨t116, t117, t118⟩, A40, H⟩ := H
  replace H : ((cachepotlaw4_alive.f k).bind fun t119 => (if t119 = true then (if t113 = t116 then (if t114 = t117 then (some (t115 == t118)) else (some false)) else (some false)) else (some false))) = some r := H
  have A4 := Aside0.mk A40
  clear A40
  replace H := Option.bind_eq_some_iff.mp H
  obtain ⟨t119, A50, H⟩ := H
  replace H : (if t119 = true then (if t113 = t116 then (if t114 = t117 then (some (t115 == t118)) else (some false)) else (some false)) else (some false)) = some r := H
  have A5 := Aside0.mk A50
  clear A50
  by_cases c6 : t119 = true
  · subst c6
    have H1 : (if t113 = t116 then (if t114 = t117 then (some (t115 == t118)) else (some false)) else (some false)) = some r := by rw [if_pos rfl] at H; exact H
    clear H
    have H := H1
    clear H1
    by_cases c7 : t113 = t116
    · rw [if_pos c7] at H
      have c7b0 : (t113 == t116) = true := beq_iff_eq.mpr c7
      have c7b1 : (t113 != t116) = false := bne_eq_false_iff_eq.mpr c7
      clear c7
      by_cases c8 : t114 = t117
      · rw [if_pos c8] at H
        have c8b0 : (t114 == t117) = true := beq_iff_eq.mpr c8
        have c8b1 : (t114 != t117) = false := bne_eq_false_iff_eq.mpr c8
        clear c8
        obtain rfl := Option.some.inj H
        go_enter Try.func4, Try.ntmps4
        go_wp2_with (first | ((with_reducible refine gate_callee (f := 14) rfl ?_); refine goesL_ (some 14) rfl rfl Try.func14 (by kernel_rfl) rfl #[.string a0, .int .i64 a1] rfl (by (try simp only [List.map_toArray, List.map_cons, List.map_nil]); first | done | rfl | (simp only [List.length_drop, List.length_take]; rfl)) ?_; (with_reducible refine (lay_GetNum.calls k a0 a1 t113 t114 t115 _ A3.out).mono ?_); rintro e w' ⟨rfl, ⟨nd, rfl⟩⟩; refine ⟨_, rfl, ?_⟩) | ((with_reducible refine gate_callee (f := 15) rfl ?_); refine goesL_ (some 21) rfl rfl Try.func15 (by kernel_rfl) rfl #[.string a0, .int .i64 a1] rfl (by (try simp only [List.map_toArray, List.map_cons, List.map_nil]); first | done | rfl | (simp only [List.length_drop, List.length_take]; rfl)) ?_; (with_reducible refine (cachepotref1_GetNum.calls k a0 a1 t116 t117 t118 _ A4.out).mono ?_); rintro e w' ⟨rfl, ⟨nd, rfl⟩⟩; refine ⟨_, rfl, ?_⟩) | ((with_reducible refine gate_callee (f := 9) rfl ?_); refine goesL_ (some 25) rfl rfl Try.func9 (by kernel_rfl) rfl #[] rfl (by (try simp only [List.map_toArray, List.map_cons, List.map_nil]); first | done | rfl | (simp only [List.length_drop, List.length_take]; rfl)) ?_; (with_reducible refine (cachepotlaw4_alive.calls k  true _ A5.out).mono ?_); rintro e w9 ⟨rfl, hb⟩; refine ⟨_, rfl, ?_⟩; have n0_ := Aside0.mk (below_step (by repeat (first | (with_reducible first | exact HB.out | apply below_alloc | apply pw_below_drewN | apply below_drew1) | exact HB.out)) hb); clear HB; have HB := n0_; clear n0_; (try clear hb); (try clear hb2); (try clear hk); (try clear hi)))
        go_ret
        exact ⟨by first | rfl | (simp [errW_none, errW_some] <;> rfl) | (simp [*, errW_none, errW_some] <;> rfl), by repeat (first | (with_reducible first | exact HB.out | apply below_alloc | apply pw_below_drewN | apply below_drew1) | exact HB.out)⟩
      · rw [if_neg c8] at H
        have c8b0 : (t114 == t117) = false := beq_eq_false_iff_ne.mpr c8
        have c8b1 : (t114 != t117) = true := bne_iff_ne.mpr c8
        obtain rfl := Option.some.inj H
        go_enter Try.func4, Try.ntmps4
        go_wp2_with (first | ((with_reducible refine gate_callee (f := 14) rfl ?_); refine goesL_ (some 14) rfl rfl Try.func14 (by kernel_rfl) rfl #[.string a0, .int .i64 a1] rfl (by (try simp only [List.map_toArray, List.map_cons, List.map_nil]); first | done | rfl | (simp only [List.length_drop, List.length_take]; rfl)) ?_; (with_reducible refine (lay_GetNum.calls k a0 a1 t113 t114 t115 _ A3.out).mono ?_); rintro e w' ⟨rfl, ⟨nd, rfl⟩⟩; refine ⟨_, rfl, ?_⟩) | ((with_reducible refine gate_callee (f := 15) rfl ?_); refine goesL_ (some 21) rfl rfl Try.func15 (by kernel_rfl) rfl #[.string a0, .int .i64 a1] rfl (by (try simp only [List.map_toArray, List.map_cons, List.map_nil]); first | done | rfl | (simp only [List.length_drop, List.length_take]; rfl)) ?_; (with_reducible refine (cachepotref1_GetNum.calls k a0 a1 t116 t117 t118 _ A4.out).mono ?_); rintro e w' ⟨rfl, ⟨nd, rfl⟩⟩; refine ⟨_, rfl, ?_⟩) | ((with_reducible refine gate_callee (f := 9) rfl ?_); refine goesL_ (some 25) rfl rfl Try.func9 (by kernel_rfl) rfl #[] rfl (by (try simp only [List.map_toArray, List.map_cons, List.map_nil]); first | done | rfl | (simp only [List.length_drop, List.length_take]; rfl)) ?_; (with_reducible refine (cachepotlaw4_alive.calls k  true _ A5.out).mono ?_); rintro e w10 ⟨rfl, hb⟩; refine ⟨_, rfl, ?_⟩; have n0_ := Aside0.mk (below_step (by repeat (first | (with_reducible first | exact HB.out | apply below_alloc | apply pw_below_drewN | apply below_drew1) | exact HB.out)) hb); clear HB; have HB := n0_; clear n0_; (try clear hb); (try clear hb2); (try clear hk); (try clear hi)))
        go_ret
        exact ⟨by first | rfl | (simp [errW_none, errW_some] <;> rfl) | (simp [*, errW_none, errW_some] <;> rfl), by repeat (first | (with_reducible first | exact HB.out | apply below_alloc | apply pw_below_drewN | apply below_drew1) | exact HB.out)⟩
    · rw [if_neg c7] at H
      have c7b0 : (t113 == t116) = false := beq_eq_false_iff_ne.mpr c7
      have c7b1 : (t113 != t116) = true := bne_iff_ne.mpr c7
      obtain rfl := Option.some.inj H
      go_enter Try.func4, Try.ntmps4
      go_wp2_with (first | ((with_reducible refine gate_callee (f := 14) rfl ?_); refine goesL_ (some 14) rfl rfl Try.func14 (by kernel_rfl) rfl #[.string a0, .int .i64 a1] rfl (by (try simp only [List.map_toArray, List.map_cons, List.map_nil]); first | done | rfl | (simp only [List.length_drop, List.length_take]; rfl)) ?_; (with_reducible refine (lay_GetNum.calls k a0 a1 t113 t114 t115 _ A3.out).mono ?_); rintro e w' ⟨rfl, ⟨nd, rfl⟩⟩; refine ⟨_, rfl, ?_⟩) | ((with_reducible refine gate_callee (f := 15) rfl ?_); refine goesL_ (some 21) rfl rfl Try.func15 (by kernel_rfl) rfl #[.string a0, .int .i64 a1] rfl (by (try simp only [List.map_toArray, List.map_cons, List.map_nil]); first | done | rfl | (simp only [List.length_drop, List.length_take]; rfl)) ?_; (with_reducible refine (cachepotref1_GetNum.calls k a0 a1 t116 t117 t118 _ A4.out).mono ?_); rintro e w' ⟨rfl, ⟨nd, rfl⟩⟩; refine ⟨_, rfl, ?_⟩) | ((with_reducible refine gate_callee (f := 9) rfl ?_); refine goesL_ (some 25) rfl rfl Try.func9 (by kernel_rfl) rfl #[] rfl (by (try simp only [List.map_toArray, List.map_cons, List.map_nil]); first | done | rfl | (simp only [List.length_drop, List.length_take]; rfl)) ?_; (with_reducible refine (cachepotlaw4_alive.calls k  true _ A5.out).mono ?_); rintro e w11 ⟨rfl, hb⟩; refine ⟨_, rfl, ?_⟩; have n0_ := Aside0.mk (below_step (by repeat (first | (with_reducible first | exact HB.out | apply below_alloc | apply pw_below_drewN | apply below_drew1) | exact HB.out)) hb); clear HB; have HB := n0_; clear n0_; (try clear hb); (try clear hb2); (try clear hk); (try clear hi)))
      go_ret
      exact ⟨by first | rfl | (simp [errW_none, errW_some] <;> rfl) | (simp [*, errW_none, errW_some] <;> rfl), by repeat (first | (with_reducible first | exact HB.out | apply below_alloc | apply pw_below_drewN | apply below_drew1) | exact HB.out)⟩
  · replace c6 := Bool.eq_false_iff.mpr c6
    subst c6
    have H1 : (some false) = some r := by rw [if_neg (show ¬ (false = true) by decide)] at H; exact H
    clear H
    have H := H1
    clear H1
    obtain rfl := Option.some.inj H
    go_enter Try.func4, Try.ntmps4
    go_wp2_with (first | ((with_reducible refine gate_callee (f := 14) rfl ?_); refine goesL_ (some 14) rfl rfl Try.func14 (by kernel_rfl) rfl #[.string a0, .int .i64 a1] rfl (by (try simp only [List.map_toArray, List.map_cons, List.map_nil]); first | done | rfl | (simp only [List.length_drop, List.length_take]; rfl)) ?_; (with_reducible refine (lay_GetNum.calls k a0 a1 t113 t114 t115 _ A3.out).mono ?_); rintro e w' ⟨rfl, ⟨nd, rfl⟩⟩; refine ⟨_, rfl, ?_⟩) | ((with_reducible refine gate_callee (f := 15) rfl ?_); refine goesL_ (some 21) rfl rfl Try.func15 (by kernel_rfl) rfl #[.string a0, .int .i64 a1] rfl (by (try simp only [List.map_toArray, List.map_cons, List.map_nil]); first | done | rfl | (simp only [List.length_drop, List.length_take]; rfl)) ?_; (with_reducible refine (cachepotref1_GetNum.calls k a0 a1 t116 t117 t118 _ A4.out).mono ?_); rintro e w' ⟨rfl, ⟨nd, rfl⟩⟩; refine ⟨_, rfl, ?_⟩) | ((with_reducible refine gate_callee (f := 9) rfl ?_); refine goesL_ (some 25) rfl rfl Try.func9 (by kernel_rfl) rfl #[] rfl (by (try simp only [List.map_toArray, List.map_cons, List.map_nil]); first | done | rfl | (simp only [List.length_drop, List.length_take]; rfl)) ?_; (with_reducible refine (cachepotlaw4_alive.calls k  false _ A5.out).mono ?_); rintro e w12 ⟨rfl, hb⟩; refine ⟨_, rfl, ?_⟩; have n0_ := Aside0.mk (below_step (by repeat (first | (with_reducible first | exact HB.out | apply below_alloc | apply pw_below_drewN | apply below_drew1) | exact HB.out)) hb); clear HB; have HB := n0_; clear n0_; (try clear hb); (try clear hb2); (try clear hk); (try clear hi)))
    go_ret
    exact ⟨by first | rfl | (simp [errW_none, errW_some] <;> rfl) | (simp [*, errW_none, errW_some] <;> rfl), by repeat (first | (with_reducible first | exact HB.out | apply below_alloc | apply pw_below_drewN | apply below_drew1) | exact HB.out)⟩

/-- THE ONE PURE STATEMENT of cachepotlaw4_LayNums: yours. -/
def cachepotlaw4_LayNums.Pure : Prop := ∀ (a0 : ByteArray) (a1 : Int), a0.size ≤ 140737488351232 → (Lit.int .i64 a1).wf = true → ∃ k, cachepotlaw4_LayNums.f k a0 a1 = some true
theorem cachepotlaw4_LayNums.walk (P : cachepotlaw4_LayNums.Pure) (a0 : ByteArray) (a1 : Int) (w : World) (w0 : a0.size ≤ 140737488351232) (w1 : (Lit.int .i64 a1).wf = true) :
    Calls Try.prog 4 #[.string a0, .int .i64 a1] w fun e w' => e = .returned (.bool true) ∧ Below w.heap.size w w' := by
  obtain ⟨k, h⟩ := P a0 a1 w0 w1
  refine (cachepotlaw4_LayNums.calls k a0 a1 true w h).mono ?_
  rintro e w' ⟨rfl, hd⟩
  exact ⟨rfl, hd⟩

end Go.Proofs.Ytcadbihgfahjjaa.PLayNums

/- What the functions compute, natively, and that they do. Printed by a program (wip/gen). -/
import Derived.Test.YtcadbihgfahjjaaMc2
import Derived.Test.YtcadbihgfahjjaaProg
namespace Go.Proofs.Ytcadbihgfahjjaa.N
open Go.RowKit Go.Proofs.Ytcadbihgfahjjaa.Mc Go.Proofs
set_option maxRecDepth 100000
set_option linter.unusedVariables false
noncomputable abbrev D := decOf Try.prog
theorem good : Go.Proofs.Ytcadbihgfahjjaa.Mc.Good Try.prog D := good_of _
def en5 (x : Int) : List T := [.sc (.int .u8 x)]
theorem wide5 : Wide (D.size 5) en5 := fun _ => by kernel_rfl
def F14_2 (k : Nat) (y921 : Unit) : Option (Int × Int × Int) :=
  some (0, 0, 2)
def F14_4 (k : Nat) (rcn923 : Int → Int → Option (Sum (Int × Int × Int) Unit)) (x3 : ByteArray) (x4 : Int) (y857 : Int) (y858 : Int) (y927 : Bool) : Option (Sum (Int × Int × Int) Unit) :=
  cond y927 (some (Sum.inl (0, 0, 2))) (grd (decide (0 ≤ (IntKind.wrap .i64 (7 * y858)))) <|
  bnd (Go.bits .or .u32 y857 (IntKind.wrap .u32 ((IntKind.wrap .u32 (Go.bits .and .u8 (bt x3 (IntKind.wrap .i64 (x4 + y858))) 127)) * 2 ^ min ((IntKind.wrap .i64 (7 * y858))).toNat (IntKind.bits .u32)))) fun x933 =>
  cond (decide ((bt x3 (IntKind.wrap .i64 (x4 + y858))) < 128)) (some (Sum.inl (x933, (IntKind.wrap .i64 ((IntKind.wrap .i64 (x4 + y858)) + 1)), 0))) (rcn923 x933 (IntKind.wrap .i64 (y858 + 1))))
def F14_3 (k : Nat) (x3 : ByteArray) (x4 : Int) : Nat → Int → Int → Option (Sum (Int × Int × Int) Unit)
  | 0, _, _ => none
  | n923+1, y857, y858 =>
    cond (decide (y858 < 5)) (cond (decide ((x3.size : Int) ≤ (IntKind.wrap .i64 (x4 + y858)))) (some (Sum.inl (0, 0, 3))) (grd (decide (0 ≤ (IntKind.wrap .i64 (x4 + y858)) ∧ (IntKind.wrap .i64 (x4 + y858)) < (x3.size : Int))) <|
    cond (y858 == 4) (cond (decide (15 < (bt x3 (IntKind.wrap .i64 (x4 + y858))))) (F14_4 k (F14_3 k x3 x4 n923) x3 x4 y857 y858 true) (cond (decide (0 < y858)) (F14_4 k (F14_3 k x3 x4 n923) x3 x4 y857 y858 ((bt x3 (IntKind.wrap .i64 (x4 + y858))) == 0)) (F14_4 k (F14_3 k x3 x4 n923) x3 x4 y857 y858 false))) (cond (decide (0 < y858)) (F14_4 k (F14_3 k x3 x4 n923) x3 x4 y857 y858 ((bt x3 (IntKind.wrap .i64 (x4 + y858))) == 0)) (F14_4 k (F14_3 k x3 x4 n923) x3 x4 y857 y858 false)))) (some (Sum.inr ()))
def F14_1 (k : Nat) (x3 : ByteArray) (x4 : Int) (y485 : Bool) : Option (Int × Int × Int) :=
  cond y485 (some (0, 0, 1)) ((F14_3 k x3 x4 k 0 0).bind fun z => match z with
    | (Sum.inl y920) => some (y920.1, y920.2.1, y920.2.2)
    | (Sum.inr y921) => F14_2 k y921)
def F14 (k : Nat) (x3 : ByteArray) (x4 : Int) : Option (Int × Int × Int) :=
  cond (decide (x4 < 0)) (F14_1 k x3 x4 true) (F14_1 k x3 x4 (decide ((x3.size : Int) < x4)))
theorem ct_F14 (k : Nat) (x3 : ByteArray) (x4 : Int) (r : (Int × Int × Int)) (h0 : F14 k x3 x4 = some r) : CTd Try.prog 14 [vS x3, vI .i64 x4] [] (.tp [vI .u32 r.1, vI .i64 r.2.1, vI .i64 r.2.2]) (emptyS) := by
  refine CTd.of_tr Try.f14 Try.func14 (by kernel_rfl) ?_
  unfold F14 at h0
  refine Tr.conv (Conv.normT (keep := [0, 1]) (ρ := []) ⟨upd (upd (deadT) 1 (vI .i64 x4)) 0 (vS x3), emptyS, 62, []⟩ (by kernel_rfl)) ?_
  refine Tr.seqN (by kernel_rfl) ?_
  refine Tr.regionN (by kernel_rfl) ?_
  refine TrAt.goS good 3 [(4, vI .u32 0), (5, vI .i64 0), (6, vI .i64 0)] [] (by kernel_rfl) ?_
  refine TrAt.end_ (by kernel_rfl) ?_
  refine thenQ_n ?_
  refine Tr.seqN (by kernel_rfl) ?_
  refine Tr.seqI (fun st => ∃ y485, F14_1 k x3 x4 y485 = some r ∧ st = ⟨upd (upd (upd (deadT) 17 (vB y485)) 1 (vI .i64 x4)) 0 (vS x3), emptyS, 62, []⟩) (by kernel_rfl) ?_ ?_
  · refine Tr.regionN (by kernel_rfl) ?_
    refine TrAt.goS good 3 [(10, vI .i64 x4), (11, vB (decide (x4 < 0))), (12, vB (decide (x4 < 0)))] [] (by kernel_rfl) ?_
    cases g940 : ((decide (x4 < 0)) : Bool) with
    | true =>
      have h0 := cond_t g940 h0
      refine TrAt.goS good 5 [(13, .tp []), (14, .tp []), (15, .tp []), (16, .tp []), (17, vB true)] [] (by kernel_rfl) ?_
      refine TrAt.conv (Conv.normT (keep := [0, 1, 17]) (ρ := []) ⟨upd (upd (upd (deadT) 17 (vB true)) 1 (vI .i64 x4)) 0 (vS x3), emptyS, 62, []⟩ (by kernel_rfl)) ?_
      refine TrAt.end_ (by kernel_rfl) ?_
      refine thenI_n ?_
      exact ⟨true, h0, rfl⟩
    | false =>
      have h0 := cond_f g940 h0
      refine TrAt.goS good 5 [(13, vI .i64 x4), (14, vS x3), (15, vI .i64 (x3.size : Int)), (16, vB (decide ((x3.size : Int) < x4))), (17, vB (decide ((x3.size : Int) < x4)))] [] (by kernel_rfl) ?_
      refine TrAt.conv (Conv.normT (keep := [0, 1, 17]) (ρ := []) ⟨upd (upd (upd (deadT) 17 (vB (decide ((x3.size : Int) < x4)))) 1 (vI .i64 x4)) 0 (vS x3), emptyS, 62, []⟩ (by kernel_rfl)) ?_
      refine TrAt.end_ (by kernel_rfl) ?_
      refine thenI_n ?_
      exact ⟨(decide ((x3.size : Int) < x4)), h0, rfl⟩
  · rintro st ⟨y485, h0, rfl⟩
    unfold F14_1 at h0
    refine Tr.condN y485 (by kernel_rfl) (by kernel_rfl) ?_ ?_
    · intro g486
      have h0 := cond_t g486 h0
      refine Tr.seqN (by kernel_rfl) ?_
      refine Tr.regionN (by kernel_rfl) ?_
      refine TrAt.goS good 3 [(4, vI .u32 0), (5, vI .i64 0), (6, vI .i64 1)] [] (by kernel_rfl) ?_
      refine TrAt.end_ (by kernel_rfl) ?_
      refine thenQ_n ?_
      refine Tr.conv (Conv.normT (keep := [4, 5, 6]) (ρ := []) ⟨upd (upd (upd (deadT) 6 (vI .i64 1)) 5 (vI .i64 0)) 4 (vI .u32 0), emptyS, 62, []⟩ (by kernel_rfl)) ?_
      refine Tr.retN (by kernel_rfl) ?_
      refine thenQ_r ?_
      cases h0
      exact finQ_r (by kernel_rfl) (by kernel_rfl)
    · intro g486
      have h0 := cond_f g486 h0
      refine Tr.skipN (by kernel_rfl) ?_
      refine thenQ_n ?_
      refine Tr.seqN (by kernel_rfl) ?_
      refine Tr.regionN (by kernel_rfl) ?_
      refine TrAt.goS good 1 [(7, vI .u32 0)] [] (by kernel_rfl) ?_
      refine TrAt.end_ (by kernel_rfl) ?_
      refine thenQ_n ?_
      refine Tr.seqN (by kernel_rfl) ?_
      refine Tr.seqN (by kernel_rfl) ?_
      refine Tr.regionN (by kernel_rfl) ?_
      refine TrAt.goS good 1 [(18, vI .i64 0)] [] (by kernel_rfl) ?_
      refine TrAt.end_ (by kernel_rfl) ?_
      refine thenQ_n ?_
      refine Tr.blockN (by kernel_rfl) ?_
      obtain ⟨y918, h919, h0⟩ := bind_out h0
      refine Tr.conv (Conv.normT (keep := [0, 1, 7, 18]) (ρ := []) ⟨upd (upd (upd (upd (deadT) 18 (vI .i64 0)) 7 (vI .u32 0)) 1 (vI .i64 x4)) 0 (vS x3), emptyS, 62, []⟩ (by kernel_rfl)) ?_
      refine Tr.retJoin (fun st => ∃ y920 : (Int × Int × Int), y918 = (Sum.inl y920) ∧ st = ⟨upd (upd (upd (deadT) 6 (vI .i64 y920.2.2)) 5 (vI .i64 y920.2.1)) 4 (vI .u32 y920.1), emptyS, 62, []⟩) ?_ ?_
      · rintro st ⟨y920, hz, rfl⟩
        subst hz
        have h0 : some (y920.1, y920.2.1, y920.2.2) = some r := h0
        refine inBlockQ_r ?_
        refine thenQ_r ?_
        cases h0
        exact finQ_r (by kernel_rfl) (by kernel_rfl)
      refine Tr.exJoin 0 (fun st => ∃ y921 : Unit, y918 = (Sum.inr y921) ∧ st = ⟨deadT, emptyS, 62, []⟩) ?_ ?_
      · rintro st ⟨y921, hz, rfl⟩
        subst hz
        have h0 : F14_2 k y921 = some r := h0
        refine retJ_x ?_
        unfold F14_2 at h0
        refine inBlockQ_hit (by kernel_rfl) ?_
        refine thenQ_n ?_
        refine Tr.seqN (by kernel_rfl) ?_
        refine Tr.regionN (by kernel_rfl) ?_
        refine TrAt.goS good 3 [(4, vI .u32 0), (5, vI .i64 0), (6, vI .i64 2)] [] (by kernel_rfl) ?_
        refine TrAt.end_ (by kernel_rfl) ?_
        refine thenQ_n ?_
        refine Tr.conv (Conv.normT (keep := [4, 5, 6]) (ρ := []) ⟨upd (upd (upd (deadT) 6 (vI .i64 2)) 5 (vI .i64 0)) 4 (vI .u32 0), emptyS, 62, []⟩ (by kernel_rfl)) ?_
        refine Tr.retN (by kernel_rfl) ?_
        cases h0
        exact finQ_r (by kernel_rfl) (by kernel_rfl)
      refine Tr.loopN (fun n st => ∃ y857, ∃ y858, F14_3 k x3 x4 n y857 y858 = some y918 ∧ st = ⟨upd (upd (upd (upd (deadT) 18 (vI .i64 y858)) 7 (vI .u32 y857)) 1 (vI .i64 x4)) 0 (vS x3), emptyS, 62, []⟩) k (by kernel_rfl) ⟨0, 0, h919, rfl⟩ ?_
      rintro n923 st ⟨y857, y858, h922, rfl⟩
      cases n923 with
      | zero => exact nomatch (show (none : Option (Sum (Int × Int × Int) Unit)) = some y918 from h922)
      | succ n923 =>
        unfold F14_3 at h922
        refine Tr.seqN (by kernel_rfl) ?_
        refine Tr.regionN (by kernel_rfl) ?_
        refine TrAt.goS good 1 [(19, vB (decide (y858 < 5)))] [] (by kernel_rfl) ?_
        refine TrAt.end_ (by kernel_rfl) ?_
        refine thenQ_n ?_
        refine Tr.seqN (by kernel_rfl) ?_
        refine Tr.condN (decide (y858 < 5)) (by kernel_rfl) (by kernel_rfl) ?_ ?_
        · intro g924
          have h922 := cond_t g924 h922
          refine Tr.skipN (by kernel_rfl) ?_
          refine thenQ_n ?_
          refine Tr.seqN (by kernel_rfl) ?_
          refine Tr.blockN (by kernel_rfl) ?_
          refine Tr.seqN (by kernel_rfl) ?_
          refine Tr.regionN (by kernel_rfl) ?_
          refine TrAt.goS good 2 [(20, vI .i64 y858), (8, vI .i64 y858)] [] (by kernel_rfl) ?_
          refine TrAt.end_ (by kernel_rfl) ?_
          refine thenQ_n ?_
          refine Tr.seqN (by kernel_rfl) ?_
          refine Tr.seqN (by kernel_rfl) ?_
          refine Tr.regionN (by kernel_rfl) ?_
          refine TrAt.goS good 6 [(21, vI .i64 x4), (22, vI .i64 y858), (23, vI .i64 (IntKind.wrap .i64 (x4 + y858))), (24, vS x3), (25, vI .i64 (x3.size : Int)), (26, vB (decide ((x3.size : Int) ≤ (IntKind.wrap .i64 (x4 + y858)))))] [] (by kernel_rfl) ?_
          refine TrAt.end_ (by kernel_rfl) ?_
          refine thenQ_n ?_
          refine Tr.condN (decide ((x3.size : Int) ≤ (IntKind.wrap .i64 (x4 + y858)))) (by kernel_rfl) (by kernel_rfl) ?_ ?_
          · intro g925
            have h922 := cond_t g925 h922
            refine Tr.seqN (by kernel_rfl) ?_
            refine Tr.regionN (by kernel_rfl) ?_
            refine TrAt.goS good 3 [(4, vI .u32 0), (5, vI .i64 0), (6, vI .i64 3)] [] (by kernel_rfl) ?_
            refine TrAt.end_ (by kernel_rfl) ?_
            refine thenQ_n ?_
            refine Tr.conv (Conv.normT (keep := [4, 5, 6]) (ρ := []) ⟨upd (upd (upd (deadT) 6 (vI .i64 3)) 5 (vI .i64 0)) 4 (vI .u32 0), emptyS, 62, []⟩ (by kernel_rfl)) ?_
            refine Tr.retN (by kernel_rfl) ?_
            refine thenQ_r ?_
            refine inBlockQ_r ?_
            refine thenQ_r ?_
            refine loopQ_r ?_
            refine exQ_r ?_
            refine retJ_r ?_
            exact ⟨(0, 0, 3), (Option.some.inj h922).symm, rfl⟩
          · intro g925
            have h922 := cond_f g925 h922
            refine Tr.skipN (by kernel_rfl) ?_
            refine thenQ_n ?_
            refine Tr.seqN (by kernel_rfl) ?_
            refine Tr.regionN (by kernel_rfl) ?_
            refine TrAt.goS good 4 [(27, vS x3), (28, vI .i64 x4), (29, vI .i64 y858), (30, vI .i64 (IntKind.wrap .i64 (x4 + y858)))] [] (by kernel_rfl) ?_
            obtain ⟨g926, h922⟩ := grd_out h922
            refine TrAt.lawP 31 _ _ (by kernel_rfl) (by kernel_rfl) (by kernel_rfl) (by kernel_rfl) (ixStr_ok good (t := 9) (x := .tmp 27) (i := .tmp 30) (k := .i64) (b := x3) (n := (IntKind.wrap .i64 (x4 + y858))) (by kernel_rfl) (by kernel_rfl) (by kernel_rfl) (by kernel_rfl) g926) ?_
            refine TrAt.goS good 1 [(9, vI .u8 (bt x3 (IntKind.wrap .i64 (x4 + y858))))] [] (by kernel_rfl) ?_
            refine TrAt.end_ (by kernel_rfl) ?_
            refine thenQ_n ?_
            refine Tr.seqN (by kernel_rfl) ?_
            refine Tr.seqI (fun st => ∃ y927, F14_4 k (F14_3 k x3 x4 n923) x3 x4 y857 y858 y927 = some y918 ∧ st = ⟨upd (upd (upd (upd (upd (upd (upd (deadT) 45 (vB y927)) 18 (vI .i64 y858)) 9 (vI .u8 (bt x3 (IntKind.wrap .i64 (x4 + y858))))) 8 (vI .i64 y858)) 7 (vI .u32 y857)) 1 (vI .i64 x4)) 0 (vS x3), emptyS, 62, []⟩) (by kernel_rfl) ?_ ?_
            · refine Tr.regionN (by kernel_rfl) ?_
              refine TrAt.goS good 3 [(32, vI .i64 y858), (33, vB (y858 == 4)), (34, vB (y858 == 4))] [] (by kernel_rfl) ?_
              cases g936 : ((y858 == 4) : Bool) with
              | true =>
                have h922 := cond_t g936 h922
                refine TrAt.goS good 4 [(35, vI .u8 (bt x3 (IntKind.wrap .i64 (x4 + y858)))), (36, vB (decide (15 < (bt x3 (IntKind.wrap .i64 (x4 + y858)))))), (37, vB (decide (15 < (bt x3 (IntKind.wrap .i64 (x4 + y858)))))), (38, vB (decide (15 < (bt x3 (IntKind.wrap .i64 (x4 + y858))))))] [] (by kernel_rfl) ?_
                cases g937 : ((decide (15 < (bt x3 (IntKind.wrap .i64 (x4 + y858))))) : Bool) with
                | true =>
                  have h922 := cond_t g937 h922
                  refine TrAt.goS good 7 [(39, .tp []), (40, .tp []), (41, .tp []), (42, .tp []), (43, .tp []), (44, .tp []), (45, vB true)] [] (by kernel_rfl) ?_
                  refine TrAt.conv (Conv.normT (keep := [0, 1, 7, 8, 9, 18, 45]) (ρ := []) ⟨upd (upd (upd (upd (upd (upd (upd (deadT) 45 (vB true)) 18 (vI .i64 y858)) 9 (vI .u8 (bt x3 (IntKind.wrap .i64 (x4 + y858))))) 8 (vI .i64 y858)) 7 (vI .u32 y857)) 1 (vI .i64 x4)) 0 (vS x3), emptyS, 62, []⟩ (by kernel_rfl)) ?_
                  refine TrAt.end_ (by kernel_rfl) ?_
                  refine thenI_n ?_
                  exact ⟨true, h922, rfl⟩
                | false =>
                  have h922 := cond_f g937 h922
                  refine TrAt.goS good 3 [(39, vI .i64 y858), (40, vB (decide (0 < y858))), (41, vB (decide (0 < y858)))] [] (by kernel_rfl) ?_
                  cases g938 : ((decide (0 < y858)) : Bool) with
                  | true =>
                    have h922 := cond_t g938 h922
                    refine TrAt.goS good 4 [(42, vI .u8 (bt x3 (IntKind.wrap .i64 (x4 + y858)))), (43, vB ((bt x3 (IntKind.wrap .i64 (x4 + y858))) == 0)), (44, vB ((bt x3 (IntKind.wrap .i64 (x4 + y858))) == 0)), (45, vB ((bt x3 (IntKind.wrap .i64 (x4 + y858))) == 0))] [] (by kernel_rfl) ?_
                    refine TrAt.conv (Conv.normT (keep := [0, 1, 7, 8, 9, 18, 45]) (ρ := []) ⟨upd (upd (upd (upd (upd (upd (upd (deadT) 45 (vB ((bt x3 (IntKind.wrap .i64 (x4 + y858))) == 0))) 18 (vI .i64 y858)) 9 (vI .u8 (bt x3 (IntKind.wrap .i64 (x4 + y858))))) 8 (vI .i64 y858)) 7 (vI .u32 y857)) 1 (vI .i64 x4)) 0 (vS x3), emptyS, 62, []⟩ (by kernel_rfl)) ?_
                    refine TrAt.end_ (by kernel_rfl) ?_
                    refine thenI_n ?_
                    exact ⟨((bt x3 (IntKind.wrap .i64 (x4 + y858))) == 0), h922, rfl⟩
                  | false =>
                    have h922 := cond_f g938 h922
                    refine TrAt.goS good 4 [(42, .tp []), (43, .tp []), (44, vB false), (45, vB false)] [] (by kernel_rfl) ?_
                    refine TrAt.conv (Conv.normT (keep := [0, 1, 7, 8, 9, 18, 45]) (ρ := []) ⟨upd (upd (upd (upd (upd (upd (upd (deadT) 45 (vB false)) 18 (vI .i64 y858)) 9 (vI .u8 (bt x3 (IntKind.wrap .i64 (x4 + y858))))) 8 (vI .i64 y858)) 7 (vI .u32 y857)) 1 (vI .i64 x4)) 0 (vS x3), emptyS, 62, []⟩ (by kernel_rfl)) ?_
                    refine TrAt.end_ (by kernel_rfl) ?_
                    refine thenI_n ?_
                    exact ⟨false, h922, rfl⟩
              | false =>
                have h922 := cond_f g936 h922
                refine TrAt.goS good 7 [(35, .tp []), (36, .tp []), (37, vB false), (38, vB false), (39, vI .i64 y858), (40, vB (decide (0 < y858))), (41, vB (decide (0 < y858)))] [] (by kernel_rfl) ?_
                cases g939 : ((decide (0 < y858)) : Bool) with
                | true =>
                  have h922 := cond_t g939 h922
                  refine TrAt.goS good 4 [(42, vI .u8 (bt x3 (IntKind.wrap .i64 (x4 + y858)))), (43, vB ((bt x3 (IntKind.wrap .i64 (x4 + y858))) == 0)), (44, vB ((bt x3 (IntKind.wrap .i64 (x4 + y858))) == 0)), (45, vB ((bt x3 (IntKind.wrap .i64 (x4 + y858))) == 0))] [] (by kernel_rfl) ?_
                  refine TrAt.conv (Conv.normT (keep := [0, 1, 7, 8, 9, 18, 45]) (ρ := []) ⟨upd (upd (upd (upd (upd (upd (upd (deadT) 45 (vB ((bt x3 (IntKind.wrap .i64 (x4 + y858))) == 0))) 18 (vI .i64 y858)) 9 (vI .u8 (bt x3 (IntKind.wrap .i64 (x4 + y858))))) 8 (vI .i64 y858)) 7 (vI .u32 y857)) 1 (vI .i64 x4)) 0 (vS x3), emptyS, 62, []⟩ (by kernel_rfl)) ?_
                  refine TrAt.end_ (by kernel_rfl) ?_
                  refine thenI_n ?_
                  exact ⟨((bt x3 (IntKind.wrap .i64 (x4 + y858))) == 0), h922, rfl⟩
                | false =>
                  have h922 := cond_f g939 h922
                  refine TrAt.goS good 4 [(42, .tp []), (43, .tp []), (44, vB false), (45, vB false)] [] (by kernel_rfl) ?_
                  refine TrAt.conv (Conv.normT (keep := [0, 1, 7, 8, 9, 18, 45]) (ρ := []) ⟨upd (upd (upd (upd (upd (upd (upd (deadT) 45 (vB false)) 18 (vI .i64 y858)) 9 (vI .u8 (bt x3 (IntKind.wrap .i64 (x4 + y858))))) 8 (vI .i64 y858)) 7 (vI .u32 y857)) 1 (vI .i64 x4)) 0 (vS x3), emptyS, 62, []⟩ (by kernel_rfl)) ?_
                  refine TrAt.end_ (by kernel_rfl) ?_
                  refine thenI_n ?_
                  exact ⟨false, h922, rfl⟩
            · rintro st ⟨y927, h922, rfl⟩
              unfold F14_4 at h922
              refine Tr.condN y927 (by kernel_rfl) (by kernel_rfl) ?_ ?_
              · intro g928
                have h922 := cond_t g928 h922
                refine Tr.seqN (by kernel_rfl) ?_
                refine Tr.regionN (by kernel_rfl) ?_
                refine TrAt.goS good 3 [(4, vI .u32 0), (5, vI .i64 0), (6, vI .i64 2)] [] (by kernel_rfl) ?_
                refine TrAt.end_ (by kernel_rfl) ?_
                refine thenQ_n ?_
                refine Tr.conv (Conv.normT (keep := [4, 5, 6]) (ρ := []) ⟨upd (upd (upd (deadT) 6 (vI .i64 2)) 5 (vI .i64 0)) 4 (vI .u32 0), emptyS, 62, []⟩ (by kernel_rfl)) ?_
                refine Tr.retN (by kernel_rfl) ?_
                refine thenQ_r ?_
                refine inBlockQ_r ?_
                refine thenQ_r ?_
                refine loopQ_r ?_
                refine exQ_r ?_
                refine retJ_r ?_
                exact ⟨(0, 0, 2), (Option.some.inj h922).symm, rfl⟩
              · intro g928
                have h922 := cond_f g928 h922
                refine Tr.skipN (by kernel_rfl) ?_
                refine thenQ_n ?_
                refine Tr.seqN (by kernel_rfl) ?_
                refine Tr.regionN (by kernel_rfl) ?_
                refine TrAt.goS good 6 [(46, vI .u32 y857), (47, vI .u8 (bt x3 (IntKind.wrap .i64 (x4 + y858)))), (48, vI .u8 (Go.bits .and .u8 (bt x3 (IntKind.wrap .i64 (x4 + y858))) 127)), (49, vI .u32 (IntKind.wrap .u32 (Go.bits .and .u8 (bt x3 (IntKind.wrap .i64 (x4 + y858))) 127))), (50, vI .i64 y858), (51, vI .i64 (IntKind.wrap .i64 (7 * y858)))] [] (by kernel_rfl) ?_
                obtain ⟨g932, h922⟩ := grd_out h922
                refine TrAt.lawP 52 _ _ (by kernel_rfl) (by kernel_rfl) (by kernel_rfl) (by kernel_rfl) (shl_ok good (t := 22) (q := 3) (x := .tmp 49) (y := .tmp 51) (k := .u32) (k' := .i64) (a := (IntKind.wrap .u32 (Go.bits .and .u8 (bt x3 (IntKind.wrap .i64 (x4 + y858))) 127))) (b := (IntKind.wrap .i64 (7 * y858))) (by kernel_rfl) (by kernel_rfl) (by kernel_rfl) g932) ?_
                refine TrAt.goS good 2 [(53, vI .u32 (Go.bits .or .u32 y857 (IntKind.wrap .u32 ((IntKind.wrap .u32 (Go.bits .and .u8 (bt x3 (IntKind.wrap .i64 (x4 + y858))) 127)) * 2 ^ min ((IntKind.wrap .i64 (7 * y858))).toNat (IntKind.bits .u32))))), (7, vI .u32 (Go.bits .or .u32 y857 (IntKind.wrap .u32 ((IntKind.wrap .u32 (Go.bits .and .u8 (bt x3 (IntKind.wrap .i64 (x4 + y858))) 127)) * 2 ^ min ((IntKind.wrap .i64 (7 * y858))).toNat (IntKind.bits .u32)))))] [] (by kernel_rfl) ?_
                obtain ⟨x933, h934, h922⟩ := bnd_out h922
                rw [← h934]
                refine TrAt.end_ (by kernel_rfl) ?_
                refine thenQ_n ?_
                refine Tr.seqN (by kernel_rfl) ?_
                refine Tr.regionN (by kernel_rfl) ?_
                refine TrAt.goS good 2 [(54, vI .u8 (bt x3 (IntKind.wrap .i64 (x4 + y858)))), (55, vB (decide ((bt x3 (IntKind.wrap .i64 (x4 + y858))) < 128)))] [] (by kernel_rfl) ?_
                refine TrAt.end_ (by kernel_rfl) ?_
                refine thenQ_n ?_
                refine Tr.condN (decide ((bt x3 (IntKind.wrap .i64 (x4 + y858))) < 128)) (by kernel_rfl) (by kernel_rfl) ?_ ?_
                · intro g935
                  have h922 := cond_t g935 h922
                  refine Tr.seqN (by kernel_rfl) ?_
                  refine Tr.regionN (by kernel_rfl) ?_
                  refine TrAt.goS good 8 [(56, vI .u32 x933), (57, vI .i64 x4), (58, vI .i64 y858), (59, vI .i64 (IntKind.wrap .i64 (x4 + y858))), (60, vI .i64 (IntKind.wrap .i64 ((IntKind.wrap .i64 (x4 + y858)) + 1))), (4, vI .u32 x933), (5, vI .i64 (IntKind.wrap .i64 ((IntKind.wrap .i64 (x4 + y858)) + 1))), (6, vI .i64 0)] [] (by kernel_rfl) ?_
                  refine TrAt.end_ (by kernel_rfl) ?_
                  refine thenQ_n ?_
                  refine Tr.conv (Conv.normT (keep := [4, 5, 6]) (ρ := []) ⟨upd (upd (upd (deadT) 6 (vI .i64 0)) 5 (vI .i64 (IntKind.wrap .i64 ((IntKind.wrap .i64 (x4 + y858)) + 1)))) 4 (vI .u32 x933), emptyS, 62, []⟩ (by kernel_rfl)) ?_
                  refine Tr.retN (by kernel_rfl) ?_
                  refine inBlockQ_r ?_
                  refine thenQ_r ?_
                  refine loopQ_r ?_
                  refine exQ_r ?_
                  refine retJ_r ?_
                  exact ⟨(x933, (IntKind.wrap .i64 ((IntKind.wrap .i64 (x4 + y858)) + 1)), 0), (Option.some.inj h922).symm, rfl⟩
                · intro g935
                  have h922 := cond_f g935 h922
                  refine Tr.skipN (by kernel_rfl) ?_
                  refine inBlockQ_n ?_
                  refine thenQ_n ?_
                  refine Tr.regionN (by kernel_rfl) ?_
                  refine TrAt.goS good 2 [(61, vI .i64 (IntKind.wrap .i64 (y858 + 1))), (18, vI .i64 (IntKind.wrap .i64 (y858 + 1)))] [] (by kernel_rfl) ?_
                  refine TrAt.conv (Conv.normT (keep := [0, 1, 7, 18]) (ρ := []) ⟨upd (upd (upd (upd (deadT) 18 (vI .i64 (IntKind.wrap .i64 (y858 + 1)))) 7 (vI .u32 x933)) 1 (vI .i64 x4)) 0 (vS x3), emptyS, 62, []⟩ (by kernel_rfl)) ?_
                  refine TrAt.end_ (by kernel_rfl) ?_
                  refine loopQ_n ?_
                  exact ⟨x933, (IntKind.wrap .i64 (y858 + 1)), h922, rfl⟩
        · intro g924
          have h922 := cond_f g924 h922
          refine Tr.conv (Conv.normT (keep := []) (ρ := []) ⟨deadT, emptyS, 62, []⟩ (by kernel_rfl)) ?_
          refine Tr.exitN (by kernel_rfl) ?_
          refine thenQ_x ?_
          refine loopQ_x ?_
          refine exQ_hit (by kernel_rfl) ?_
          exact ⟨(), (Option.some.inj h922).symm, rfl⟩
def F10_1 (k : Nat) (y1033 : (Int × (List Int))) : Option ByteArray :=
  grd (decide ((y1033.2.length + ([(IntKind.wrap .u8 y1033.1)]).length) * 1 ≤ 140737488355328)) <|
  some (strOfNums (y1033.2 ++ ([(IntKind.wrap .u8 y1033.1)])))
def F10_2 (k : Nat)  : Nat → Int → (List Int) → Option (Int × (List Int))
  | 0, _, _ => none
  | n1038+1, y1025, y1026 =>
    cond (decide (128 ≤ y1025)) (grd (decide ((y1026.length + ([(Go.bits .or .u8 (IntKind.wrap .u8 y1025) 128)]).length) * 1 ≤ 140737488355328)) <|
    (F10_2 k n1038) (Int.fdiv y1025 128) (y1026 ++ ([(Go.bits .or .u8 (IntKind.wrap .u8 y1025) 128)]))) (some (y1025, y1026))
def F10 (k : Nat) (x945 : Int) : Option ByteArray :=
  (F10_2 k  k x945 ([])).bind fun y1033 =>
  F10_1 k y1033
theorem ct_F10 (k : Nat) (x945 : Int) (r : ByteArray) (h0 : F10 k x945 = some r) : CTd Try.prog 10 [vI .u32 x945] [] (vS r) (emptyS) := by
  refine CTd.of_tr Try.f10 Try.func10 (by kernel_rfl) ?_
  unfold F10 at h0
  refine Tr.conv (Conv.normT (keep := [0]) (ρ := []) ⟨upd (deadT) 0 (vI .u32 x945), emptyS, 20, []⟩ (by kernel_rfl)) ?_
  refine Tr.seqN (by kernel_rfl) ?_
  refine Tr.regionN (by kernel_rfl) ?_
  refine TrAt.goS good 1 [(2, vS (ByteArray.mk #[]))] [] (by kernel_rfl) ?_
  refine TrAt.end_ (by kernel_rfl) ?_
  refine thenQ_n ?_
  refine Tr.seqN (by kernel_rfl) ?_
  refine Tr.regionN (by kernel_rfl) ?_
  refine TrAt.goS good 1 [(3, .t (.sc (.slice none 0 0)))] [] (by kernel_rfl) ?_
  refine TrAt.end_ (by kernel_rfl) ?_
  refine thenQ_n ?_
  refine Tr.seqN (by kernel_rfl) ?_
  refine Tr.blockN (by kernel_rfl) ?_
  obtain ⟨y1033, h1034, h0⟩ := bind_out h0
  refine Tr.conv (Conv.nilSl 3 200004 5 1 (by kernel_rfl) (by kernel_rfl) (by kernel_rfl)) ?_
  refine Tr.conv (Conv.normT (keep := [0, 3]) (ρ := [(200004, 300000)]) ⟨upd (upd (deadT) 3 (.sl .n 300000)) 0 (vI .u32 x945), upd (emptyS) 300000 (some (some (.ar 5 1 (([]).map en5)))), 20, []⟩ (by kernel_rfl)) ?_
  refine Tr.exJoin 0 (fun st => st = ⟨upd (upd (deadT) 3 (.sl .n 300000)) 0 (vI .u32 y1033.1), upd (emptyS) 300000 (some (some (.ar 5 1 (y1033.2.map en5)))), 20, []⟩) ?_ ?_
  · rintro st rfl
    have h0 : F10_1 k y1033 = some r := h0
    unfold F10_1 at h0
    refine inBlockQ_hit (by kernel_rfl) ?_
    refine thenQ_n ?_
    refine Tr.seqN (by kernel_rfl) ?_
    refine Tr.regionN (by kernel_rfl) ?_
    refine TrAt.goS good 3 [(14, .sl .n 300000), (15, vI .u32 y1033.1), (16, vI .u8 (IntKind.wrap .u8 y1033.1))] [] (by kernel_rfl) ?_
    refine TrAt.lawP 17 _ _ (by kernel_rfl) (by kernel_rfl) (by kernel_rfl) (by kernel_rfl) (bsP_ok good (t := 35) (e := 5) (d := 17) (len := 1) (parts := #[(0, .tmp 16)]) (rows := ([(IntKind.wrap .u8 y1033.1)]).map en5) (by kernel_rfl) (by kernel_rfl) (by kernel_rfl) (by kernel_rfl) (by kernel_rfl) (by kernel_rfl)) ?_
    obtain ⟨g1036, h0⟩ := grd_out h0
    refine TrAt.lawP 18 _ _ (by kernel_rfl) (by kernel_rfl) (by kernel_rfl) (by kernel_rfl) (apP_ok good (x := .tmp 14) (y := .tmp 17) (t := 35) (e := 5) (d := 18) (nl := .n) (enc := en5) (xs := y1033.2) (ys := [(IntKind.wrap .u8 y1033.1)]) (oo := (some 300000)) (bz := 1) (by kernel_rfl) (by kernel_rfl) (by kernel_rfl) (by kernel_rfl) (by kernel_rfl) (by kernel_rfl) wide5 (by kernel_rfl) g1036) ?_
    refine TrAt.lawP 19 _ _ (by kernel_rfl) (by kernel_rfl) (by kernel_rfl) (by kernel_rfl) (bytesStr_ok good (src := 35) (dst := 9) (e := 5) (x := .tmp 18) (xs := (y1033.2 ++ ([(IntKind.wrap .u8 y1033.1)]))) (by kernel_rfl) (by kernel_rfl) (by kernel_rfl) (by kernel_rfl) (by kernel_rfl)) ?_
    refine TrAt.goS good 1 [(2, vS (strOfNums (y1033.2 ++ ([(IntKind.wrap .u8 y1033.1)]))))] [] (by kernel_rfl) ?_
    refine TrAt.end_ (by kernel_rfl) ?_
    refine thenQ_n ?_
    refine Tr.conv (Conv.normT (keep := [2]) (ρ := []) ⟨upd (deadT) 2 (vS (strOfNums (y1033.2 ++ ([(IntKind.wrap .u8 y1033.1)])))), emptyS, 20, []⟩ (by kernel_rfl)) ?_
    refine Tr.retN (by kernel_rfl) ?_
    cases h0
    exact finQ_r (by kernel_rfl) (by kernel_rfl)
  refine Tr.loopN (fun n st => ∃ y1025, ∃ y1026, F10_2 k  n y1025 y1026 = some y1033 ∧ st = ⟨upd (upd (deadT) 3 (.sl .n 300000)) 0 (vI .u32 y1025), upd (emptyS) 300000 (some (some (.ar 5 1 (y1026.map en5)))), 20, []⟩) k (by kernel_rfl) ⟨x945, [], h1034, rfl⟩ ?_
  rintro n1038 st ⟨y1025, y1026, h1037, rfl⟩
  cases n1038 with
  | zero => exact nomatch (show (none : Option (Int × (List Int))) = some y1033 from h1037)
  | succ n1038 =>
    unfold F10_2 at h1037
    refine Tr.seqN (by kernel_rfl) ?_
    refine Tr.seqN (by kernel_rfl) ?_
    refine Tr.regionN (by kernel_rfl) ?_
    refine TrAt.goS good 2 [(4, vI .u32 y1025), (5, vB (decide (128 ≤ y1025)))] [] (by kernel_rfl) ?_
    refine TrAt.end_ (by kernel_rfl) ?_
    refine thenQ_n ?_
    refine Tr.condN (decide (128 ≤ y1025)) (by kernel_rfl) (by kernel_rfl) ?_ ?_
    · intro g1039
      have h1037 := cond_t g1039 h1037
      refine Tr.skipN (by kernel_rfl) ?_
      refine thenQ_n ?_
      refine Tr.blockN (by kernel_rfl) ?_
      refine Tr.seqN (by kernel_rfl) ?_
      refine Tr.regionN (by kernel_rfl) ?_
      refine TrAt.goS good 4 [(6, .sl .n 300000), (7, vI .u32 y1025), (8, vI .u8 (IntKind.wrap .u8 y1025)), (9, vI .u8 (Go.bits .or .u8 (IntKind.wrap .u8 y1025) 128))] [] (by kernel_rfl) ?_
      refine TrAt.lawP 10 _ _ (by kernel_rfl) (by kernel_rfl) (by kernel_rfl) (by kernel_rfl) (bsP_ok good (t := 35) (e := 5) (d := 10) (len := 1) (parts := #[(0, .tmp 9)]) (rows := ([(Go.bits .or .u8 (IntKind.wrap .u8 y1025) 128)]).map en5) (by kernel_rfl) (by kernel_rfl) (by kernel_rfl) (by kernel_rfl) (by kernel_rfl) (by kernel_rfl)) ?_
      obtain ⟨g1040, h1037⟩ := grd_out h1037
      refine TrAt.lawP 11 _ _ (by kernel_rfl) (by kernel_rfl) (by kernel_rfl) (by kernel_rfl) (apP_ok good (x := .tmp 6) (y := .tmp 10) (t := 35) (e := 5) (d := 11) (nl := .n) (enc := en5) (xs := y1026) (ys := [(Go.bits .or .u8 (IntKind.wrap .u8 y1025) 128)]) (oo := (some 300000)) (bz := 1) (by kernel_rfl) (by kernel_rfl) (by kernel_rfl) (by kernel_rfl) (by kernel_rfl) (by kernel_rfl) wide5 (by kernel_rfl) g1040) ?_
      refine TrAt.goS good 1 [(3, .sl .n 11)] [] (by kernel_rfl) ?_
      refine TrAt.end_ (by kernel_rfl) ?_
      refine thenQ_n ?_
      refine Tr.regionN (by kernel_rfl) ?_
      refine TrAt.goS good 3 [(12, vI .u32 y1025), (13, vI .u32 (Int.fdiv y1025 128)), (0, vI .u32 (Int.fdiv y1025 128))] [] (by kernel_rfl) ?_
      refine TrAt.conv (Conv.normT (keep := [0, 3]) (ρ := [(11, 300000)]) ⟨upd (upd (deadT) 3 (.sl .n 300000)) 0 (vI .u32 (Int.fdiv y1025 128)), upd (emptyS) 300000 (some (some (.ar 5 1 ((y1026 ++ ([(Go.bits .or .u8 (IntKind.wrap .u8 y1025) 128)])).map en5)))), 20, []⟩ (by kernel_rfl)) ?_
      refine TrAt.end_ (by kernel_rfl) ?_
      refine inBlockQ_n ?_
      refine loopQ_n ?_
      exact ⟨(Int.fdiv y1025 128), (y1026 ++ ([(Go.bits .or .u8 (IntKind.wrap .u8 y1025) 128)])), h1037, rfl⟩
    · intro g1039
      have h1037 := cond_f g1039 h1037
      refine Tr.conv (Conv.normT (keep := [0, 3]) (ρ := [(300000, 300000)]) ⟨upd (upd (deadT) 3 (.sl .n 300000)) 0 (vI .u32 y1025), upd (emptyS) 300000 (some (some (.ar 5 1 (y1026.map en5)))), 20, []⟩ (by kernel_rfl)) ?_
      refine Tr.exitN (by kernel_rfl) ?_
      refine thenQ_x ?_
      refine loopQ_x ?_
      refine exQ_hit (by kernel_rfl) ?_
      cases h1037
      rfl
def F12 (k : Nat) (x1044 : ByteArray) : Option ByteArray :=
  (F10 k (IntKind.wrap .u32 (x1044.size : Int))).bind fun y1052 =>
  grd (decide (y1052.size + x1044.size ≤ 9223372036854775807)) <|
  some (y1052 ++ x1044)
theorem ct_F12 (k : Nat) (x1044 : ByteArray) (r : ByteArray) (h0 : F12 k x1044 = some r) : CTd Try.prog 12 [vS x1044] [] (vS r) (emptyS) := by
  refine CTd.of_tr Try.f12 Try.func12 (by kernel_rfl) ?_
  unfold F12 at h0
  refine Tr.conv (Conv.normT (keep := [0]) (ρ := []) ⟨upd (deadT) 0 (vS x1044), emptyS, 9, []⟩ (by kernel_rfl)) ?_
  refine Tr.seqN (by kernel_rfl) ?_
  refine Tr.regionN (by kernel_rfl) ?_
  refine TrAt.goS good 1 [(2, vS (ByteArray.mk #[]))] [] (by kernel_rfl) ?_
  refine TrAt.end_ (by kernel_rfl) ?_
  refine thenQ_n ?_
  refine Tr.seqN (by kernel_rfl) ?_
  refine Tr.regionN (by kernel_rfl) ?_
  refine TrAt.goS good 3 [(3, vS x1044), (4, vI .i64 (x1044.size : Int)), (5, vI .u32 (IntKind.wrap .u32 (x1044.size : Int)))] [] (by kernel_rfl) ?_
  obtain ⟨y1052, h1053, h0⟩ := bind_out h0
  refine TrAt.callD (caps := []) 6 (vS y1052) [] [] (.func 10) #[.tmp 5] #[22] (ct_F10 k (IntKind.wrap .u32 (x1044.size : Int)) y1052 h1053) Try.func10 (by kernel_rfl) (by kernel_rfl) (by kernel_rfl) (by kernel_rfl) (by kernel_rfl) (by kernel_rfl) (by kernel_rfl) (by kernel_rfl) (by kernel_rfl) (by kernel_rfl) (by kernel_rfl) (by kernel_rfl) (by kernel_rfl) (by kernel_rfl) (by kernel_rfl) ?_
  refine TrAt.goS good 1 [(7, vS x1044)] [] (by kernel_rfl) ?_
  obtain ⟨g1054, h0⟩ := grd_out h0
  refine TrAt.lawP 8 _ _ (by kernel_rfl) (by kernel_rfl) (by kernel_rfl) (by kernel_rfl) (catStr_ok good (t := 9) (x := .tmp 6) (y := .tmp 7) (q := 9) (a := y1052) (b := x1044) (by kernel_rfl) (by kernel_rfl) (by kernel_rfl) g1054) ?_
  refine TrAt.goS good 1 [(2, vS (y1052 ++ x1044))] [] (by kernel_rfl) ?_
  refine TrAt.end_ (by kernel_rfl) ?_
  refine thenQ_n ?_
  refine Tr.conv (Conv.normT (keep := [2]) (ρ := []) ⟨upd (deadT) 2 (vS (y1052 ++ x1044)), emptyS, 9, []⟩ (by kernel_rfl)) ?_
  refine Tr.retN (by kernel_rfl) ?_
  cases h0
  exact finQ_r (by kernel_rfl) (by kernel_rfl)
def F9_1 (k : Nat) (y1074 : Bool) : Option Bool :=
  some y1074
def F9 (k : Nat)  : Option Bool :=
  (F14 k (ByteArray.mk #[128, 0]) 0).bind fun y1066 =>
  (F10 k 300).bind fun y1075 =>
  cond (y1075.toList == (ByteArray.mk #[172, 2]).toList) ((F12 k (ByteArray.mk #[97, 98])).bind fun y1078 =>
  cond (y1078.toList == (ByteArray.mk #[2, 97, 98]).toList) (F9_1 k (y1066.2.2 == 2)) (F9_1 k false)) (F9_1 k false)
theorem ct_F9 (k : Nat)  (r : Bool) (h0 : F9 k = some r) : CTd Try.prog 9 [] [] (vB r) (emptyS) := by
  refine CTd.of_tr Try.f9 Try.func9 (by kernel_rfl) ?_
  unfold F9 at h0
  refine Tr.conv (Conv.normT (keep := []) (ρ := []) ⟨deadT, emptyS, 19, []⟩ (by kernel_rfl)) ?_
  refine Tr.seqN (by kernel_rfl) ?_
  refine Tr.regionN (by kernel_rfl) ?_
  refine TrAt.goS good 1 [(0, vB false)] [] (by kernel_rfl) ?_
  refine TrAt.end_ (by kernel_rfl) ?_
  refine thenQ_n ?_
  refine Tr.seqN (by kernel_rfl) ?_
  refine Tr.regionN (by kernel_rfl) ?_
  obtain ⟨y1066, h1067, h0⟩ := bind_out h0
  refine TrAt.callD (caps := []) 5 (.tp [vI .u32 y1066.1, vI .i64 y1066.2.1, vI .i64 y1066.2.2]) [] [] (.func 14) #[.const (.string (ByteArray.mk #[128, 0])), .const (.int .i64 0)] #[9, 3] (ct_F14 k (ByteArray.mk #[128, 0]) 0 y1066 h1067) Try.func14 (by kernel_rfl) (by kernel_rfl) (by kernel_rfl) (by kernel_rfl) (by kernel_rfl) (by kernel_rfl) (by kernel_rfl) (by kernel_rfl) (by kernel_rfl) (by kernel_rfl) (by kernel_rfl) (by kernel_rfl) (by kernel_rfl) (by kernel_rfl) (by kernel_rfl) ?_
  refine TrAt.goS good 7 [(4, .tp [vI .u32 y1066.1, vI .i64 y1066.2.1, vI .i64 y1066.2.2]), (6, vI .u32 y1066.1), (7, vI .i64 y1066.2.1), (8, vI .i64 y1066.2.2), (1, vI .u32 y1066.1), (2, vI .i64 y1066.2.1), (3, vI .i64 y1066.2.2)] [] (by kernel_rfl) ?_
  refine TrAt.end_ (by kernel_rfl) ?_
  refine thenQ_n ?_
  refine Tr.seqI (fun st => ∃ y1074, F9_1 k y1074 = some r ∧ st = ⟨upd (deadT) 0 (vB y1074), emptyS, 19, []⟩) (by kernel_rfl) ?_ ?_
  · refine Tr.regionN (by kernel_rfl) ?_
    obtain ⟨y1075, h1076, h0⟩ := bind_out h0
    refine TrAt.callD (caps := []) 9 (vS y1075) [] [] (.func 10) #[.const (.int .u32 300)] #[22] (ct_F10 k 300 y1075 h1076) Try.func10 (by kernel_rfl) (by kernel_rfl) (by kernel_rfl) (by kernel_rfl) (by kernel_rfl) (by kernel_rfl) (by kernel_rfl) (by kernel_rfl) (by kernel_rfl) (by kernel_rfl) (by kernel_rfl) (by kernel_rfl) (by kernel_rfl) (by kernel_rfl) (by kernel_rfl) ?_
    refine TrAt.goS good 2 [(10, vB (y1075.toList == (ByteArray.mk #[172, 2]).toList)), (11, vB (y1075.toList == (ByteArray.mk #[172, 2]).toList))] [] (by kernel_rfl) ?_
    cases g1077 : ((y1075.toList == (ByteArray.mk #[172, 2]).toList) : Bool) with
    | true =>
      have h0 := cond_t g1077 h0
      obtain ⟨y1078, h1079, h0⟩ := bind_out h0
      refine TrAt.callD (caps := []) 12 (vS y1078) [] [] (.func 12) #[.const (.string (ByteArray.mk #[97, 98]))] #[9] (ct_F12 k (ByteArray.mk #[97, 98]) y1078 h1079) Try.func12 (by kernel_rfl) (by kernel_rfl) (by kernel_rfl) (by kernel_rfl) (by kernel_rfl) (by kernel_rfl) (by kernel_rfl) (by kernel_rfl) (by kernel_rfl) (by kernel_rfl) (by kernel_rfl) (by kernel_rfl) (by kernel_rfl) (by kernel_rfl) (by kernel_rfl) ?_
      refine TrAt.goS good 3 [(13, vB (y1078.toList == (ByteArray.mk #[2, 97, 98]).toList)), (14, vB (y1078.toList == (ByteArray.mk #[2, 97, 98]).toList)), (15, vB (y1078.toList == (ByteArray.mk #[2, 97, 98]).toList))] [] (by kernel_rfl) ?_
      cases g1080 : ((y1078.toList == (ByteArray.mk #[2, 97, 98]).toList) : Bool) with
      | true =>
        have h0 := cond_t g1080 h0
        refine TrAt.goS good 4 [(16, vI .i64 y1066.2.2), (17, vB (y1066.2.2 == 2)), (18, vB (y1066.2.2 == 2)), (0, vB (y1066.2.2 == 2))] [] (by kernel_rfl) ?_
        refine TrAt.conv (Conv.normT (keep := [0]) (ρ := []) ⟨upd (deadT) 0 (vB (y1066.2.2 == 2)), emptyS, 19, []⟩ (by kernel_rfl)) ?_
        refine TrAt.end_ (by kernel_rfl) ?_
        refine thenI_n ?_
        exact ⟨(y1066.2.2 == 2), h0, rfl⟩
      | false =>
        have h0 := cond_f g1080 h0
        refine TrAt.goS good 4 [(16, .tp []), (17, .tp []), (18, vB false), (0, vB false)] [] (by kernel_rfl) ?_
        refine TrAt.conv (Conv.normT (keep := [0]) (ρ := []) ⟨upd (deadT) 0 (vB false), emptyS, 19, []⟩ (by kernel_rfl)) ?_
        refine TrAt.end_ (by kernel_rfl) ?_
        refine thenI_n ?_
        exact ⟨false, h0, rfl⟩
    | false =>
      have h0 := cond_f g1077 h0
      refine TrAt.goS good 8 [(12, .tp []), (13, .tp []), (14, vB false), (15, vB false), (16, .tp []), (17, .tp []), (18, vB false), (0, vB false)] [] (by kernel_rfl) ?_
      refine TrAt.conv (Conv.normT (keep := [0]) (ρ := []) ⟨upd (deadT) 0 (vB false), emptyS, 19, []⟩ (by kernel_rfl)) ?_
      refine TrAt.end_ (by kernel_rfl) ?_
      refine thenI_n ?_
      exact ⟨false, h0, rfl⟩
  · rintro st ⟨y1074, h0, rfl⟩
    unfold F9_1 at h0
    refine Tr.conv (Conv.normT (keep := [0]) (ρ := []) ⟨upd (deadT) 0 (vB y1074), emptyS, 19, []⟩ (by kernel_rfl)) ?_
    refine Tr.retN (by kernel_rfl) ?_
    cases h0
    exact finQ_r (by kernel_rfl) (by kernel_rfl)
def F11_1 (k : Nat) (y1174 : (Int × (List Int))) : Option ByteArray :=
  grd (decide ((y1174.2.length + ([(IntKind.wrap .u8 y1174.1)]).length) * 1 ≤ 140737488355328)) <|
  some (strOfNums (y1174.2 ++ ([(IntKind.wrap .u8 y1174.1)])))
def F11_2 (k : Nat)  : Nat → Int → (List Int) → Option (Int × (List Int))
  | 0, _, _ => none
  | n1179+1, y1166, y1167 =>
    cond (decide (128 ≤ y1166)) (grd (decide ((y1167.length + ([(IntKind.wrap .u8 ((IntKind.wrap .u8 (Int.tmod y1166 128)) + 128))]).length) * 1 ≤ 140737488355328)) <|
    (F11_2 k n1179) (IntKind.wrap .u32 (Int.tdiv y1166 128)) (y1167 ++ ([(IntKind.wrap .u8 ((IntKind.wrap .u8 (Int.tmod y1166 128)) + 128))]))) (some (y1166, y1167))
def F11 (k : Nat) (x1086 : Int) : Option ByteArray :=
  (F11_2 k  k x1086 ([])).bind fun y1174 =>
  F11_1 k y1174
theorem ct_F11 (k : Nat) (x1086 : Int) (r : ByteArray) (h0 : F11 k x1086 = some r) : CTd Try.prog 11 [vI .u32 x1086] [] (vS r) (emptyS) := by
  refine CTd.of_tr Try.f11 Try.func11 (by kernel_rfl) ?_
  unfold F11 at h0
  refine Tr.conv (Conv.normT (keep := [0]) (ρ := []) ⟨upd (deadT) 0 (vI .u32 x1086), emptyS, 21, []⟩ (by kernel_rfl)) ?_
  refine Tr.seqN (by kernel_rfl) ?_
  refine Tr.regionN (by kernel_rfl) ?_
  refine TrAt.goS good 1 [(2, vS (ByteArray.mk #[]))] [] (by kernel_rfl) ?_
  refine TrAt.end_ (by kernel_rfl) ?_
  refine thenQ_n ?_
  refine Tr.seqN (by kernel_rfl) ?_
  refine Tr.regionN (by kernel_rfl) ?_
  refine TrAt.goS good 1 [(3, .t (.sc (.slice none 0 0)))] [] (by kernel_rfl) ?_
  refine TrAt.end_ (by kernel_rfl) ?_
  refine thenQ_n ?_
  refine Tr.seqN (by kernel_rfl) ?_
  refine Tr.blockN (by kernel_rfl) ?_
  obtain ⟨y1174, h1175, h0⟩ := bind_out h0
  refine Tr.conv (Conv.nilSl 3 200008 5 1 (by kernel_rfl) (by kernel_rfl) (by kernel_rfl)) ?_
  refine Tr.conv (Conv.normT (keep := [0, 3]) (ρ := [(200008, 300000)]) ⟨upd (upd (deadT) 3 (.sl .n 300000)) 0 (vI .u32 x1086), upd (emptyS) 300000 (some (some (.ar 5 1 (([]).map en5)))), 21, []⟩ (by kernel_rfl)) ?_
  refine Tr.exJoin 0 (fun st => st = ⟨upd (upd (deadT) 3 (.sl .n 300000)) 0 (vI .u32 y1174.1), upd (emptyS) 300000 (some (some (.ar 5 1 (y1174.2.map en5)))), 21, []⟩) ?_ ?_
  · rintro st rfl
    have h0 : F11_1 k y1174 = some r := h0
    unfold F11_1 at h0
    refine inBlockQ_hit (by kernel_rfl) ?_
    refine thenQ_n ?_
    refine Tr.seqN (by kernel_rfl) ?_
    refine Tr.regionN (by kernel_rfl) ?_
    refine TrAt.goS good 3 [(15, .sl .n 300000), (16, vI .u32 y1174.1), (17, vI .u8 (IntKind.wrap .u8 y1174.1))] [] (by kernel_rfl) ?_
    refine TrAt.lawP 18 _ _ (by kernel_rfl) (by kernel_rfl) (by kernel_rfl) (by kernel_rfl) (bsP_ok good (t := 35) (e := 5) (d := 18) (len := 1) (parts := #[(0, .tmp 17)]) (rows := ([(IntKind.wrap .u8 y1174.1)]).map en5) (by kernel_rfl) (by kernel_rfl) (by kernel_rfl) (by kernel_rfl) (by kernel_rfl) (by kernel_rfl)) ?_
    obtain ⟨g1177, h0⟩ := grd_out h0
    refine TrAt.lawP 19 _ _ (by kernel_rfl) (by kernel_rfl) (by kernel_rfl) (by kernel_rfl) (apP_ok good (x := .tmp 15) (y := .tmp 18) (t := 35) (e := 5) (d := 19) (nl := .n) (enc := en5) (xs := y1174.2) (ys := [(IntKind.wrap .u8 y1174.1)]) (oo := (some 300000)) (bz := 1) (by kernel_rfl) (by kernel_rfl) (by kernel_rfl) (by kernel_rfl) (by kernel_rfl) (by kernel_rfl) wide5 (by kernel_rfl) g1177) ?_
    refine TrAt.lawP 20 _ _ (by kernel_rfl) (by kernel_rfl) (by kernel_rfl) (by kernel_rfl) (bytesStr_ok good (src := 35) (dst := 9) (e := 5) (x := .tmp 19) (xs := (y1174.2 ++ ([(IntKind.wrap .u8 y1174.1)]))) (by kernel_rfl) (by kernel_rfl) (by kernel_rfl) (by kernel_rfl) (by kernel_rfl)) ?_
    refine TrAt.goS good 1 [(2, vS (strOfNums (y1174.2 ++ ([(IntKind.wrap .u8 y1174.1)]))))] [] (by kernel_rfl) ?_
    refine TrAt.end_ (by kernel_rfl) ?_
    refine thenQ_n ?_
    refine Tr.conv (Conv.normT (keep := [2]) (ρ := []) ⟨upd (deadT) 2 (vS (strOfNums (y1174.2 ++ ([(IntKind.wrap .u8 y1174.1)])))), emptyS, 21, []⟩ (by kernel_rfl)) ?_
    refine Tr.retN (by kernel_rfl) ?_
    cases h0
    exact finQ_r (by kernel_rfl) (by kernel_rfl)
  refine Tr.loopN (fun n st => ∃ y1166, ∃ y1167, F11_2 k  n y1166 y1167 = some y1174 ∧ st = ⟨upd (upd (deadT) 3 (.sl .n 300000)) 0 (vI .u32 y1166), upd (emptyS) 300000 (some (some (.ar 5 1 (y1167.map en5)))), 21, []⟩) k (by kernel_rfl) ⟨x1086, [], h1175, rfl⟩ ?_
  rintro n1179 st ⟨y1166, y1167, h1178, rfl⟩
  cases n1179 with
  | zero => exact nomatch (show (none : Option (Int × (List Int))) = some y1174 from h1178)
  | succ n1179 =>
    unfold F11_2 at h1178
    refine Tr.seqN (by kernel_rfl) ?_
    refine Tr.seqN (by kernel_rfl) ?_
    refine Tr.regionN (by kernel_rfl) ?_
    refine TrAt.goS good 2 [(4, vI .u32 y1166), (5, vB (decide (128 ≤ y1166)))] [] (by kernel_rfl) ?_
    refine TrAt.end_ (by kernel_rfl) ?_
    refine thenQ_n ?_
    refine Tr.condN (decide (128 ≤ y1166)) (by kernel_rfl) (by kernel_rfl) ?_ ?_
    · intro g1180
      have h1178 := cond_t g1180 h1178
      refine Tr.skipN (by kernel_rfl) ?_
      refine thenQ_n ?_
      refine Tr.blockN (by kernel_rfl) ?_
      refine Tr.seqN (by kernel_rfl) ?_
      refine Tr.regionN (by kernel_rfl) ?_
      refine TrAt.goS good 5 [(6, .sl .n 300000), (7, vI .u32 y1166), (8, vI .u32 (Int.tmod y1166 128)), (9, vI .u8 (IntKind.wrap .u8 (Int.tmod y1166 128))), (10, vI .u8 (IntKind.wrap .u8 ((IntKind.wrap .u8 (Int.tmod y1166 128)) + 128)))] [] (by kernel_rfl) ?_
      refine TrAt.lawP 11 _ _ (by kernel_rfl) (by kernel_rfl) (by kernel_rfl) (by kernel_rfl) (bsP_ok good (t := 35) (e := 5) (d := 11) (len := 1) (parts := #[(0, .tmp 10)]) (rows := ([(IntKind.wrap .u8 ((IntKind.wrap .u8 (Int.tmod y1166 128)) + 128))]).map en5) (by kernel_rfl) (by kernel_rfl) (by kernel_rfl) (by kernel_rfl) (by kernel_rfl) (by kernel_rfl)) ?_
      obtain ⟨g1181, h1178⟩ := grd_out h1178
      refine TrAt.lawP 12 _ _ (by kernel_rfl) (by kernel_rfl) (by kernel_rfl) (by kernel_rfl) (apP_ok good (x := .tmp 6) (y := .tmp 11) (t := 35) (e := 5) (d := 12) (nl := .n) (enc := en5) (xs := y1167) (ys := [(IntKind.wrap .u8 ((IntKind.wrap .u8 (Int.tmod y1166 128)) + 128))]) (oo := (some 300000)) (bz := 1) (by kernel_rfl) (by kernel_rfl) (by kernel_rfl) (by kernel_rfl) (by kernel_rfl) (by kernel_rfl) wide5 (by kernel_rfl) g1181) ?_
      refine TrAt.goS good 1 [(3, .sl .n 12)] [] (by kernel_rfl) ?_
      refine TrAt.end_ (by kernel_rfl) ?_
      refine thenQ_n ?_
      refine Tr.regionN (by kernel_rfl) ?_
      refine TrAt.goS good 3 [(13, vI .u32 y1166), (14, vI .u32 (IntKind.wrap .u32 (Int.tdiv y1166 128))), (0, vI .u32 (IntKind.wrap .u32 (Int.tdiv y1166 128)))] [] (by kernel_rfl) ?_
      refine TrAt.conv (Conv.normT (keep := [0, 3]) (ρ := [(12, 300000)]) ⟨upd (upd (deadT) 3 (.sl .n 300000)) 0 (vI .u32 (IntKind.wrap .u32 (Int.tdiv y1166 128))), upd (emptyS) 300000 (some (some (.ar 5 1 ((y1167 ++ ([(IntKind.wrap .u8 ((IntKind.wrap .u8 (Int.tmod y1166 128)) + 128))])).map en5)))), 21, []⟩ (by kernel_rfl)) ?_
      refine TrAt.end_ (by kernel_rfl) ?_
      refine inBlockQ_n ?_
      refine loopQ_n ?_
      exact ⟨(IntKind.wrap .u32 (Int.tdiv y1166 128)), (y1167 ++ ([(IntKind.wrap .u8 ((IntKind.wrap .u8 (Int.tmod y1166 128)) + 128))])), h1178, rfl⟩
    · intro g1180
      have h1178 := cond_f g1180 h1178
      refine Tr.conv (Conv.normT (keep := [0, 3]) (ρ := [(300000, 300000)]) ⟨upd (upd (deadT) 3 (.sl .n 300000)) 0 (vI .u32 y1166), upd (emptyS) 300000 (some (some (.ar 5 1 (y1167.map en5)))), 21, []⟩ (by kernel_rfl)) ?_
      refine Tr.exitN (by kernel_rfl) ?_
      refine thenQ_x ?_
      refine loopQ_x ?_
      refine exQ_hit (by kernel_rfl) ?_
      cases h1178
      rfl
def F13 (k : Nat) (x1187 : ByteArray) : Option ByteArray :=
  (F11 k (IntKind.wrap .u32 (x1187.size : Int))).bind fun y1195 =>
  grd (decide (y1195.size + x1187.size ≤ 9223372036854775807)) <|
  some (y1195 ++ x1187)
theorem ct_F13 (k : Nat) (x1187 : ByteArray) (r : ByteArray) (h0 : F13 k x1187 = some r) : CTd Try.prog 13 [vS x1187] [] (vS r) (emptyS) := by
  refine CTd.of_tr Try.f13 Try.func13 (by kernel_rfl) ?_
  unfold F13 at h0
  refine Tr.conv (Conv.normT (keep := [0]) (ρ := []) ⟨upd (deadT) 0 (vS x1187), emptyS, 9, []⟩ (by kernel_rfl)) ?_
  refine Tr.seqN (by kernel_rfl) ?_
  refine Tr.regionN (by kernel_rfl) ?_
  refine TrAt.goS good 1 [(2, vS (ByteArray.mk #[]))] [] (by kernel_rfl) ?_
  refine TrAt.end_ (by kernel_rfl) ?_
  refine thenQ_n ?_
  refine Tr.seqN (by kernel_rfl) ?_
  refine Tr.regionN (by kernel_rfl) ?_
  refine TrAt.goS good 3 [(3, vS x1187), (4, vI .i64 (x1187.size : Int)), (5, vI .u32 (IntKind.wrap .u32 (x1187.size : Int)))] [] (by kernel_rfl) ?_
  obtain ⟨y1195, h1196, h0⟩ := bind_out h0
  refine TrAt.callD (caps := []) 6 (vS y1195) [] [] (.func 11) #[.tmp 5] #[22] (ct_F11 k (IntKind.wrap .u32 (x1187.size : Int)) y1195 h1196) Try.func11 (by kernel_rfl) (by kernel_rfl) (by kernel_rfl) (by kernel_rfl) (by kernel_rfl) (by kernel_rfl) (by kernel_rfl) (by kernel_rfl) (by kernel_rfl) (by kernel_rfl) (by kernel_rfl) (by kernel_rfl) (by kernel_rfl) (by kernel_rfl) (by kernel_rfl) ?_
  refine TrAt.goS good 1 [(7, vS x1187)] [] (by kernel_rfl) ?_
  obtain ⟨g1197, h0⟩ := grd_out h0
  refine TrAt.lawP 8 _ _ (by kernel_rfl) (by kernel_rfl) (by kernel_rfl) (by kernel_rfl) (catStr_ok good (t := 9) (x := .tmp 6) (y := .tmp 7) (q := 9) (a := y1195) (b := x1187) (by kernel_rfl) (by kernel_rfl) (by kernel_rfl) g1197) ?_
  refine TrAt.goS good 1 [(2, vS (y1195 ++ x1187))] [] (by kernel_rfl) ?_
  refine TrAt.end_ (by kernel_rfl) ?_
  refine thenQ_n ?_
  refine Tr.conv (Conv.normT (keep := [2]) (ρ := []) ⟨upd (deadT) 2 (vS (y1195 ++ x1187)), emptyS, 9, []⟩ (by kernel_rfl)) ?_
  refine Tr.retN (by kernel_rfl) ?_
  cases h0
  exact finQ_r (by kernel_rfl) (by kernel_rfl)
def F3_1 (k : Nat) (y1214 : Bool) : Option Bool :=
  some y1214
def F3 (k : Nat) (x1 : Int) (x2 : ByteArray) : Option Bool :=
  (F9 k).bind fun y1215 =>
  cond y1215 ((F10 k x1).bind fun y1218 =>
  (F11 k x1).bind fun y1220 =>
  cond (y1218.toList == y1220.toList) ((F12 k x2).bind fun y1223 =>
  (F13 k x2).bind fun y1225 =>
  F3_1 k (y1223.toList == y1225.toList)) (F3_1 k false)) (F3_1 k false)
theorem ct_F3 (k : Nat) (x1 : Int) (x2 : ByteArray) (r : Bool) (h0 : F3 k x1 x2 = some r) : CTd Try.prog 3 [vI .u32 x1, vS x2] [] (vB r) (emptyS) := by
  refine CTd.of_tr Try.f3 Try.func3 (by kernel_rfl) ?_
  unfold F3 at h0
  refine Tr.conv (Conv.normT (keep := [0, 1]) (ρ := []) ⟨upd (upd (deadT) 1 (vS x2)) 0 (vI .u32 x1), emptyS, 20, []⟩ (by kernel_rfl)) ?_
  refine Tr.seqN (by kernel_rfl) ?_
  refine Tr.regionN (by kernel_rfl) ?_
  refine TrAt.goS good 1 [(4, vB false)] [] (by kernel_rfl) ?_
  refine TrAt.end_ (by kernel_rfl) ?_
  refine thenQ_n ?_
  refine Tr.seqI (fun st => ∃ y1214, F3_1 k y1214 = some r ∧ st = ⟨upd (deadT) 4 (vB y1214), emptyS, 20, []⟩) (by kernel_rfl) ?_ ?_
  · refine Tr.regionN (by kernel_rfl) ?_
    obtain ⟨y1215, h1216, h0⟩ := bind_out h0
    refine TrAt.callD (caps := []) 5 (vB y1215) [] [] (.func 9) #[] #[] (ct_F9 k y1215 h1216) Try.func9 (by kernel_rfl) (by kernel_rfl) (by kernel_rfl) (by kernel_rfl) (by kernel_rfl) (by kernel_rfl) (by kernel_rfl) (by kernel_rfl) (by kernel_rfl) (by kernel_rfl) (by kernel_rfl) (by kernel_rfl) (by kernel_rfl) (by kernel_rfl) (by kernel_rfl) ?_
    refine TrAt.goS good 1 [(6, vB y1215)] [] (by kernel_rfl) ?_
    cases g1217 : (y1215 : Bool) with
    | true =>
      have h0 := cond_t g1217 h0
      refine TrAt.goS good 1 [(7, vI .u32 x1)] [] (by kernel_rfl) ?_
      obtain ⟨y1218, h1219, h0⟩ := bind_out h0
      refine TrAt.callD (caps := []) 8 (vS y1218) [] [] (.func 10) #[.tmp 7] #[22] (ct_F10 k x1 y1218 h1219) Try.func10 (by kernel_rfl) (by kernel_rfl) (by kernel_rfl) (by kernel_rfl) (by kernel_rfl) (by kernel_rfl) (by kernel_rfl) (by kernel_rfl) (by kernel_rfl) (by kernel_rfl) (by kernel_rfl) (by kernel_rfl) (by kernel_rfl) (by kernel_rfl) (by kernel_rfl) ?_
      refine TrAt.goS good 1 [(9, vI .u32 x1)] [] (by kernel_rfl) ?_
      obtain ⟨y1220, h1221, h0⟩ := bind_out h0
      refine TrAt.callD (caps := []) 10 (vS y1220) [] [] (.func 11) #[.tmp 9] #[22] (ct_F11 k x1 y1220 h1221) Try.func11 (by kernel_rfl) (by kernel_rfl) (by kernel_rfl) (by kernel_rfl) (by kernel_rfl) (by kernel_rfl) (by kernel_rfl) (by kernel_rfl) (by kernel_rfl) (by kernel_rfl) (by kernel_rfl) (by kernel_rfl) (by kernel_rfl) (by kernel_rfl) (by kernel_rfl) ?_
      refine TrAt.goS good 3 [(11, vB (y1218.toList == y1220.toList)), (12, vB (y1218.toList == y1220.toList)), (13, vB (y1218.toList == y1220.toList))] [] (by kernel_rfl) ?_
      cases g1222 : ((y1218.toList == y1220.toList) : Bool) with
      | true =>
        have h0 := cond_t g1222 h0
        refine TrAt.goS good 1 [(14, vS x2)] [] (by kernel_rfl) ?_
        obtain ⟨y1223, h1224, h0⟩ := bind_out h0
        refine TrAt.callD (caps := []) 15 (vS y1223) [] [] (.func 12) #[.tmp 14] #[9] (ct_F12 k x2 y1223 h1224) Try.func12 (by kernel_rfl) (by kernel_rfl) (by kernel_rfl) (by kernel_rfl) (by kernel_rfl) (by kernel_rfl) (by kernel_rfl) (by kernel_rfl) (by kernel_rfl) (by kernel_rfl) (by kernel_rfl) (by kernel_rfl) (by kernel_rfl) (by kernel_rfl) (by kernel_rfl) ?_
        refine TrAt.goS good 1 [(16, vS x2)] [] (by kernel_rfl) ?_
        obtain ⟨y1225, h1226, h0⟩ := bind_out h0
        refine TrAt.callD (caps := []) 17 (vS y1225) [] [] (.func 13) #[.tmp 16] #[9] (ct_F13 k x2 y1225 h1226) Try.func13 (by kernel_rfl) (by kernel_rfl) (by kernel_rfl) (by kernel_rfl) (by kernel_rfl) (by kernel_rfl) (by kernel_rfl) (by kernel_rfl) (by kernel_rfl) (by kernel_rfl) (by kernel_rfl) (by kernel_rfl) (by kernel_rfl) (by kernel_rfl) (by kernel_rfl) ?_
        refine TrAt.goS good 3 [(18, vB (y1223.toList == y1225.toList)), (19, vB (y1223.toList == y1225.toList)), (4, vB (y1223.toList == y1225.toList))] [] (by kernel_rfl) ?_
        refine TrAt.conv (Conv.normT (keep := [4]) (ρ := []) ⟨upd (deadT) 4 (vB (y1223.toList == y1225.toList)), emptyS, 20, []⟩ (by kernel_rfl)) ?_
        refine TrAt.end_ (by kernel_rfl) ?_
        refine thenI_n ?_
        exact ⟨(y1223.toList == y1225.toList), h0, rfl⟩
      | false =>
        have h0 := cond_f g1222 h0
        refine TrAt.goS good 7 [(14, .tp []), (15, .tp []), (16, .tp []), (17, .tp []), (18, .tp []), (19, vB false), (4, vB false)] [] (by kernel_rfl) ?_
        refine TrAt.conv (Conv.normT (keep := [4]) (ρ := []) ⟨upd (deadT) 4 (vB false), emptyS, 20, []⟩ (by kernel_rfl)) ?_
        refine TrAt.end_ (by kernel_rfl) ?_
        refine thenI_n ?_
        exact ⟨false, h0, rfl⟩
    | false =>
      have h0 := cond_f g1217 h0
      refine TrAt.goS good 14 [(7, .tp []), (8, .tp []), (9, .tp []), (10, .tp []), (11, .tp []), (12, vB false), (13, vB false), (14, .tp []), (15, .tp []), (16, .tp []), (17, .tp []), (18, .tp []), (19, vB false), (4, vB false)] [] (by kernel_rfl) ?_
      refine TrAt.conv (Conv.normT (keep := [4]) (ρ := []) ⟨upd (deadT) 4 (vB false), emptyS, 20, []⟩ (by kernel_rfl)) ?_
      refine TrAt.end_ (by kernel_rfl) ?_
      refine thenI_n ?_
      exact ⟨false, h0, rfl⟩
  · rintro st ⟨y1214, h0, rfl⟩
    unfold F3_1 at h0
    refine Tr.conv (Conv.normT (keep := [4]) (ρ := []) ⟨upd (deadT) 4 (vB y1214), emptyS, 20, []⟩ (by kernel_rfl)) ?_
    refine Tr.retN (by kernel_rfl) ?_
    cases h0
    exact finQ_r (by kernel_rfl) (by kernel_rfl)
def F15_2 (k : Nat) (y2175 : (Int × Int)) : Option (Int × Int × Int) :=
  some (y2175.2, y2175.1, 0)
def F15_4 (k : Nat) (rcn2177 : Int → Int → Int → Option (Sum (Int × Int × Int) (Int × Int))) (x1233 : ByteArray) (y2108 : Int) (y2109 : Int) (y2110 : Int) (y2181 : Bool) : Option (Sum (Int × Int × Int) (Int × Int)) :=
  cond y2181 (some (Sum.inl (0, 0, 2))) (grd (decide (0 ≤ (IntKind.wrap .u64 (IntKind.wrap .i64 (7 * y2110))))) <|
  bnd (Go.bits .or .u32 y2109 (IntKind.wrap .u32 ((IntKind.wrap .u32 (Int.tmod (bt x1233 y2108) 128)) * 2 ^ min ((IntKind.wrap .u64 (IntKind.wrap .i64 (7 * y2110)))).toNat (IntKind.bits .u32)))) fun x2187 =>
  cond (decide ((bt x1233 y2108) < 128)) (some (Sum.inr ((IntKind.wrap .i64 (y2108 + 1)), x2187))) (rcn2177 (IntKind.wrap .i64 (y2108 + 1)) x2187 (IntKind.wrap .i64 (y2110 + 1))))
def F15_3 (k : Nat) (x1233 : ByteArray) : Nat → Int → Int → Int → Option (Sum (Int × Int × Int) (Int × Int))
  | 0, _, _, _ => none
  | n2177+1, y2108, y2109, y2110 =>
    cond (decide (y2110 < 5)) (cond (decide ((x1233.size : Int) ≤ y2108)) (some (Sum.inl (0, 0, 3))) (grd (decide (0 ≤ y2108 ∧ y2108 < (x1233.size : Int))) <|
    cond (y2110 == 4) (cond (decide (15 < (bt x1233 y2108))) (F15_4 k (F15_3 k x1233 n2177) x1233 y2108 y2109 y2110 true) (cond ((bt x1233 y2108) == 0) (F15_4 k (F15_3 k x1233 n2177) x1233 y2108 y2109 y2110 (decide (0 < y2110))) (F15_4 k (F15_3 k x1233 n2177) x1233 y2108 y2109 y2110 false))) (cond ((bt x1233 y2108) == 0) (F15_4 k (F15_3 k x1233 n2177) x1233 y2108 y2109 y2110 (decide (0 < y2110))) (F15_4 k (F15_3 k x1233 n2177) x1233 y2108 y2109 y2110 false)))) (some (Sum.inr (y2108, y2109)))
def F15_1 (k : Nat) (x1233 : ByteArray) (x1234 : Int) (y1728 : Bool) : Option (Int × Int × Int) :=
  cond y1728 (some (0, 0, 1)) ((F15_3 k x1233 k x1234 0 0).bind fun z => match z with
    | (Sum.inl y2174) => some (y2174.1, y2174.2.1, y2174.2.2)
    | (Sum.inr y2175) => F15_2 k y2175)
def F15 (k : Nat) (x1233 : ByteArray) (x1234 : Int) : Option (Int × Int × Int) :=
  cond (decide (x1234 < 0)) (F15_1 k x1233 x1234 true) (F15_1 k x1233 x1234 (decide ((x1233.size : Int) < x1234)))
theorem ct_F15 (k : Nat) (x1233 : ByteArray) (x1234 : Int) (r : (Int × Int × Int)) (h0 : F15 k x1233 x1234 = some r) : CTd Try.prog 15 [vS x1233, vI .i64 x1234] [] (.tp [vI .u32 r.1, vI .i64 r.2.1, vI .i64 r.2.2]) (emptyS) := by
  refine CTd.of_tr Try.f15 Try.func15 (by kernel_rfl) ?_
  unfold F15 at h0
  refine Tr.conv (Conv.normT (keep := [0, 1]) (ρ := []) ⟨upd (upd (deadT) 1 (vI .i64 x1234)) 0 (vS x1233), emptyS, 58, []⟩ (by kernel_rfl)) ?_
  refine Tr.seqN (by kernel_rfl) ?_
  refine Tr.regionN (by kernel_rfl) ?_
  refine TrAt.goS good 3 [(4, vI .u32 0), (5, vI .i64 0), (6, vI .i64 0)] [] (by kernel_rfl) ?_
  refine TrAt.end_ (by kernel_rfl) ?_
  refine thenQ_n ?_
  refine Tr.seqN (by kernel_rfl) ?_
  refine Tr.seqI (fun st => ∃ y1728, F15_1 k x1233 x1234 y1728 = some r ∧ st = ⟨upd (upd (upd (deadT) 17 (vB y1728)) 1 (vI .i64 x1234)) 0 (vS x1233), emptyS, 58, []⟩) (by kernel_rfl) ?_ ?_
  · refine Tr.regionN (by kernel_rfl) ?_
    refine TrAt.goS good 3 [(10, vI .i64 x1234), (11, vB (decide (x1234 < 0))), (12, vB (decide (x1234 < 0)))] [] (by kernel_rfl) ?_
    cases g2194 : ((decide (x1234 < 0)) : Bool) with
    | true =>
      have h0 := cond_t g2194 h0
      refine TrAt.goS good 5 [(13, .tp []), (14, .tp []), (15, .tp []), (16, .tp []), (17, vB true)] [] (by kernel_rfl) ?_
      refine TrAt.conv (Conv.normT (keep := [0, 1, 17]) (ρ := []) ⟨upd (upd (upd (deadT) 17 (vB true)) 1 (vI .i64 x1234)) 0 (vS x1233), emptyS, 58, []⟩ (by kernel_rfl)) ?_
      refine TrAt.end_ (by kernel_rfl) ?_
      refine thenI_n ?_
      exact ⟨true, h0, rfl⟩
    | false =>
      have h0 := cond_f g2194 h0
      refine TrAt.goS good 5 [(13, vI .i64 x1234), (14, vS x1233), (15, vI .i64 (x1233.size : Int)), (16, vB (decide ((x1233.size : Int) < x1234))), (17, vB (decide ((x1233.size : Int) < x1234)))] [] (by kernel_rfl) ?_
      refine TrAt.conv (Conv.normT (keep := [0, 1, 17]) (ρ := []) ⟨upd (upd (upd (deadT) 17 (vB (decide ((x1233.size : Int) < x1234)))) 1 (vI .i64 x1234)) 0 (vS x1233), emptyS, 58, []⟩ (by kernel_rfl)) ?_
      refine TrAt.end_ (by kernel_rfl) ?_
      refine thenI_n ?_
      exact ⟨(decide ((x1233.size : Int) < x1234)), h0, rfl⟩
  · rintro st ⟨y1728, h0, rfl⟩
    unfold F15_1 at h0
    refine Tr.condN y1728 (by kernel_rfl) (by kernel_rfl) ?_ ?_
    · intro g1729
      have h0 := cond_t g1729 h0
      refine Tr.seqN (by kernel_rfl) ?_
      refine Tr.regionN (by kernel_rfl) ?_
      refine TrAt.goS good 3 [(4, vI .u32 0), (5, vI .i64 0), (6, vI .i64 1)] [] (by kernel_rfl) ?_
      refine TrAt.end_ (by kernel_rfl) ?_
      refine thenQ_n ?_
      refine Tr.conv (Conv.normT (keep := [4, 5, 6]) (ρ := []) ⟨upd (upd (upd (deadT) 6 (vI .i64 1)) 5 (vI .i64 0)) 4 (vI .u32 0), emptyS, 58, []⟩ (by kernel_rfl)) ?_
      refine Tr.retN (by kernel_rfl) ?_
      refine thenQ_r ?_
      cases h0
      exact finQ_r (by kernel_rfl) (by kernel_rfl)
    · intro g1729
      have h0 := cond_f g1729 h0
      refine Tr.skipN (by kernel_rfl) ?_
      refine thenQ_n ?_
      refine Tr.seqN (by kernel_rfl) ?_
      refine Tr.regionN (by kernel_rfl) ?_
      refine TrAt.goS good 1 [(7, vI .u32 0)] [] (by kernel_rfl) ?_
      refine TrAt.end_ (by kernel_rfl) ?_
      refine thenQ_n ?_
      refine Tr.seqN (by kernel_rfl) ?_
      refine Tr.seqN (by kernel_rfl) ?_
      refine Tr.regionN (by kernel_rfl) ?_
      refine TrAt.goS good 1 [(8, vI .i64 0)] [] (by kernel_rfl) ?_
      refine TrAt.end_ (by kernel_rfl) ?_
      refine thenQ_n ?_
      refine Tr.blockN (by kernel_rfl) ?_
      obtain ⟨y2172, h2173, h0⟩ := bind_out h0
      refine Tr.conv (Conv.normT (keep := [0, 1, 7, 8]) (ρ := []) ⟨upd (upd (upd (upd (deadT) 8 (vI .i64 0)) 7 (vI .u32 0)) 1 (vI .i64 x1234)) 0 (vS x1233), emptyS, 58, []⟩ (by kernel_rfl)) ?_
      refine Tr.retJoin (fun st => ∃ y2174 : (Int × Int × Int), y2172 = (Sum.inl y2174) ∧ st = ⟨upd (upd (upd (deadT) 6 (vI .i64 y2174.2.2)) 5 (vI .i64 y2174.2.1)) 4 (vI .u32 y2174.1), emptyS, 58, []⟩) ?_ ?_
      · rintro st ⟨y2174, hz, rfl⟩
        subst hz
        have h0 : some (y2174.1, y2174.2.1, y2174.2.2) = some r := h0
        refine inBlockQ_r ?_
        refine thenQ_r ?_
        cases h0
        exact finQ_r (by kernel_rfl) (by kernel_rfl)
      refine Tr.exJoin 0 (fun st => ∃ y2175 : (Int × Int), y2172 = (Sum.inr y2175) ∧ st = ⟨upd (upd (deadT) 7 (vI .u32 y2175.2)) 1 (vI .i64 y2175.1), emptyS, 58, []⟩) ?_ ?_
      · rintro st ⟨y2175, hz, rfl⟩
        subst hz
        have h0 : F15_2 k y2175 = some r := h0
        refine retJ_x ?_
        unfold F15_2 at h0
        refine inBlockQ_hit (by kernel_rfl) ?_
        refine thenQ_n ?_
        refine Tr.seqN (by kernel_rfl) ?_
        refine Tr.regionN (by kernel_rfl) ?_
        refine TrAt.goS good 5 [(56, vI .u32 y2175.2), (57, vI .i64 y2175.1), (4, vI .u32 y2175.2), (5, vI .i64 y2175.1), (6, vI .i64 0)] [] (by kernel_rfl) ?_
        refine TrAt.end_ (by kernel_rfl) ?_
        refine thenQ_n ?_
        refine Tr.conv (Conv.normT (keep := [4, 5, 6]) (ρ := []) ⟨upd (upd (upd (deadT) 6 (vI .i64 0)) 5 (vI .i64 y2175.1)) 4 (vI .u32 y2175.2), emptyS, 58, []⟩ (by kernel_rfl)) ?_
        refine Tr.retN (by kernel_rfl) ?_
        cases h0
        exact finQ_r (by kernel_rfl) (by kernel_rfl)
      refine Tr.loopN (fun n st => ∃ y2108, ∃ y2109, ∃ y2110, F15_3 k x1233 n y2108 y2109 y2110 = some y2172 ∧ st = ⟨upd (upd (upd (upd (deadT) 8 (vI .i64 y2110)) 7 (vI .u32 y2109)) 1 (vI .i64 y2108)) 0 (vS x1233), emptyS, 58, []⟩) k (by kernel_rfl) ⟨x1234, 0, 0, h2173, rfl⟩ ?_
      rintro n2177 st ⟨y2108, y2109, y2110, h2176, rfl⟩
      cases n2177 with
      | zero => exact nomatch (show (none : Option (Sum (Int × Int × Int) (Int × Int))) = some y2172 from h2176)
      | succ n2177 =>
        unfold F15_3 at h2176
        refine Tr.seqN (by kernel_rfl) ?_
        refine Tr.seqN (by kernel_rfl) ?_
        refine Tr.regionN (by kernel_rfl) ?_
        refine TrAt.goS good 2 [(18, vI .i64 y2110), (19, vB (decide (y2110 < 5)))] [] (by kernel_rfl) ?_
        refine TrAt.end_ (by kernel_rfl) ?_
        refine thenQ_n ?_
        refine Tr.condN (decide (y2110 < 5)) (by kernel_rfl) (by kernel_rfl) ?_ ?_
        · intro g2178
          have h2176 := cond_t g2178 h2176
          refine Tr.skipN (by kernel_rfl) ?_
          refine thenQ_n ?_
          refine Tr.seqN (by kernel_rfl) ?_
          refine Tr.blockN (by kernel_rfl) ?_
          refine Tr.seqN (by kernel_rfl) ?_
          refine Tr.seqN (by kernel_rfl) ?_
          refine Tr.regionN (by kernel_rfl) ?_
          refine TrAt.goS good 4 [(22, vI .i64 y2108), (23, vS x1233), (24, vI .i64 (x1233.size : Int)), (25, vB (decide ((x1233.size : Int) ≤ y2108)))] [] (by kernel_rfl) ?_
          refine TrAt.end_ (by kernel_rfl) ?_
          refine thenQ_n ?_
          refine Tr.condN (decide ((x1233.size : Int) ≤ y2108)) (by kernel_rfl) (by kernel_rfl) ?_ ?_
          · intro g2179
            have h2176 := cond_t g2179 h2176
            refine Tr.seqN (by kernel_rfl) ?_
            refine Tr.regionN (by kernel_rfl) ?_
            refine TrAt.goS good 3 [(4, vI .u32 0), (5, vI .i64 0), (6, vI .i64 3)] [] (by kernel_rfl) ?_
            refine TrAt.end_ (by kernel_rfl) ?_
            refine thenQ_n ?_
            refine Tr.conv (Conv.normT (keep := [4, 5, 6]) (ρ := []) ⟨upd (upd (upd (deadT) 6 (vI .i64 3)) 5 (vI .i64 0)) 4 (vI .u32 0), emptyS, 58, []⟩ (by kernel_rfl)) ?_
            refine Tr.retN (by kernel_rfl) ?_
            refine thenQ_r ?_
            refine inBlockQ_r ?_
            refine thenQ_r ?_
            refine loopQ_r ?_
            refine exQ_r ?_
            refine retJ_r ?_
            exact ⟨(0, 0, 3), (Option.some.inj h2176).symm, rfl⟩
          · intro g2179
            have h2176 := cond_f g2179 h2176
            refine Tr.skipN (by kernel_rfl) ?_
            refine thenQ_n ?_
            refine Tr.seqN (by kernel_rfl) ?_
            refine Tr.regionN (by kernel_rfl) ?_
            refine TrAt.goS good 2 [(26, vS x1233), (27, vI .i64 y2108)] [] (by kernel_rfl) ?_
            obtain ⟨g2180, h2176⟩ := grd_out h2176
            refine TrAt.lawP 28 _ _ (by kernel_rfl) (by kernel_rfl) (by kernel_rfl) (by kernel_rfl) (ixStr_ok good (t := 9) (x := .tmp 26) (i := .tmp 27) (k := .i64) (b := x1233) (n := y2108) (by kernel_rfl) (by kernel_rfl) (by kernel_rfl) (by kernel_rfl) g2180) ?_
            refine TrAt.goS good 1 [(9, vI .u8 (bt x1233 y2108))] [] (by kernel_rfl) ?_
            refine TrAt.end_ (by kernel_rfl) ?_
            refine thenQ_n ?_
            refine Tr.seqN (by kernel_rfl) ?_
            refine Tr.regionN (by kernel_rfl) ?_
            refine TrAt.goS good 3 [(29, vI .i64 y2108), (30, vI .i64 (IntKind.wrap .i64 (y2108 + 1))), (1, vI .i64 (IntKind.wrap .i64 (y2108 + 1)))] [] (by kernel_rfl) ?_
            refine TrAt.end_ (by kernel_rfl) ?_
            refine thenQ_n ?_
            refine Tr.seqN (by kernel_rfl) ?_
            refine Tr.seqI (fun st => ∃ y2181, F15_4 k (F15_3 k x1233 n2177) x1233 y2108 y2109 y2110 y2181 = some y2172 ∧ st = ⟨upd (upd (upd (upd (upd (upd (deadT) 44 (vB y2181)) 9 (vI .u8 (bt x1233 y2108))) 8 (vI .i64 y2110)) 7 (vI .u32 y2109)) 1 (vI .i64 (IntKind.wrap .i64 (y2108 + 1)))) 0 (vS x1233), emptyS, 58, []⟩) (by kernel_rfl) ?_ ?_
            · refine Tr.regionN (by kernel_rfl) ?_
              refine TrAt.goS good 3 [(31, vI .i64 y2110), (32, vB (y2110 == 4)), (33, vB (y2110 == 4))] [] (by kernel_rfl) ?_
              cases g2190 : ((y2110 == 4) : Bool) with
              | true =>
                have h2176 := cond_t g2190 h2176
                refine TrAt.goS good 4 [(34, vI .u8 (bt x1233 y2108)), (35, vB (decide (15 < (bt x1233 y2108)))), (36, vB (decide (15 < (bt x1233 y2108)))), (37, vB (decide (15 < (bt x1233 y2108))))] [] (by kernel_rfl) ?_
                cases g2191 : ((decide (15 < (bt x1233 y2108))) : Bool) with
                | true =>
                  have h2176 := cond_t g2191 h2176
                  refine TrAt.goS good 7 [(38, .tp []), (39, .tp []), (40, .tp []), (41, .tp []), (42, .tp []), (43, .tp []), (44, vB true)] [] (by kernel_rfl) ?_
                  refine TrAt.conv (Conv.normT (keep := [0, 1, 7, 8, 9, 44]) (ρ := []) ⟨upd (upd (upd (upd (upd (upd (deadT) 44 (vB true)) 9 (vI .u8 (bt x1233 y2108))) 8 (vI .i64 y2110)) 7 (vI .u32 y2109)) 1 (vI .i64 (IntKind.wrap .i64 (y2108 + 1)))) 0 (vS x1233), emptyS, 58, []⟩ (by kernel_rfl)) ?_
                  refine TrAt.end_ (by kernel_rfl) ?_
                  refine thenI_n ?_
                  exact ⟨true, h2176, rfl⟩
                | false =>
                  have h2176 := cond_f g2191 h2176
                  refine TrAt.goS good 3 [(38, vI .u8 (bt x1233 y2108)), (39, vB ((bt x1233 y2108) == 0)), (40, vB ((bt x1233 y2108) == 0))] [] (by kernel_rfl) ?_
                  cases g2192 : (((bt x1233 y2108) == 0) : Bool) with
                  | true =>
                    have h2176 := cond_t g2192 h2176
                    refine TrAt.goS good 4 [(41, vI .i64 y2110), (42, vB (decide (0 < y2110))), (43, vB (decide (0 < y2110))), (44, vB (decide (0 < y2110)))] [] (by kernel_rfl) ?_
                    refine TrAt.conv (Conv.normT (keep := [0, 1, 7, 8, 9, 44]) (ρ := []) ⟨upd (upd (upd (upd (upd (upd (deadT) 44 (vB (decide (0 < y2110)))) 9 (vI .u8 (bt x1233 y2108))) 8 (vI .i64 y2110)) 7 (vI .u32 y2109)) 1 (vI .i64 (IntKind.wrap .i64 (y2108 + 1)))) 0 (vS x1233), emptyS, 58, []⟩ (by kernel_rfl)) ?_
                    refine TrAt.end_ (by kernel_rfl) ?_
                    refine thenI_n ?_
                    exact ⟨(decide (0 < y2110)), h2176, rfl⟩
                  | false =>
                    have h2176 := cond_f g2192 h2176
                    refine TrAt.goS good 4 [(41, .tp []), (42, .tp []), (43, vB false), (44, vB false)] [] (by kernel_rfl) ?_
                    refine TrAt.conv (Conv.normT (keep := [0, 1, 7, 8, 9, 44]) (ρ := []) ⟨upd (upd (upd (upd (upd (upd (deadT) 44 (vB false)) 9 (vI .u8 (bt x1233 y2108))) 8 (vI .i64 y2110)) 7 (vI .u32 y2109)) 1 (vI .i64 (IntKind.wrap .i64 (y2108 + 1)))) 0 (vS x1233), emptyS, 58, []⟩ (by kernel_rfl)) ?_
                    refine TrAt.end_ (by kernel_rfl) ?_
                    refine thenI_n ?_
                    exact ⟨false, h2176, rfl⟩
              | false =>
                have h2176 := cond_f g2190 h2176
                refine TrAt.goS good 7 [(34, .tp []), (35, .tp []), (36, vB false), (37, vB false), (38, vI .u8 (bt x1233 y2108)), (39, vB ((bt x1233 y2108) == 0)), (40, vB ((bt x1233 y2108) == 0))] [] (by kernel_rfl) ?_
                cases g2193 : (((bt x1233 y2108) == 0) : Bool) with
                | true =>
                  have h2176 := cond_t g2193 h2176
                  refine TrAt.goS good 4 [(41, vI .i64 y2110), (42, vB (decide (0 < y2110))), (43, vB (decide (0 < y2110))), (44, vB (decide (0 < y2110)))] [] (by kernel_rfl) ?_
                  refine TrAt.conv (Conv.normT (keep := [0, 1, 7, 8, 9, 44]) (ρ := []) ⟨upd (upd (upd (upd (upd (upd (deadT) 44 (vB (decide (0 < y2110)))) 9 (vI .u8 (bt x1233 y2108))) 8 (vI .i64 y2110)) 7 (vI .u32 y2109)) 1 (vI .i64 (IntKind.wrap .i64 (y2108 + 1)))) 0 (vS x1233), emptyS, 58, []⟩ (by kernel_rfl)) ?_
                  refine TrAt.end_ (by kernel_rfl) ?_
                  refine thenI_n ?_
                  exact ⟨(decide (0 < y2110)), h2176, rfl⟩
                | false =>
                  have h2176 := cond_f g2193 h2176
                  refine TrAt.goS good 4 [(41, .tp []), (42, .tp []), (43, vB false), (44, vB false)] [] (by kernel_rfl) ?_
                  refine TrAt.conv (Conv.normT (keep := [0, 1, 7, 8, 9, 44]) (ρ := []) ⟨upd (upd (upd (upd (upd (upd (deadT) 44 (vB false)) 9 (vI .u8 (bt x1233 y2108))) 8 (vI .i64 y2110)) 7 (vI .u32 y2109)) 1 (vI .i64 (IntKind.wrap .i64 (y2108 + 1)))) 0 (vS x1233), emptyS, 58, []⟩ (by kernel_rfl)) ?_
                  refine TrAt.end_ (by kernel_rfl) ?_
                  refine thenI_n ?_
                  exact ⟨false, h2176, rfl⟩
            · rintro st ⟨y2181, h2176, rfl⟩
              unfold F15_4 at h2176
              refine Tr.condN y2181 (by kernel_rfl) (by kernel_rfl) ?_ ?_
              · intro g2182
                have h2176 := cond_t g2182 h2176
                refine Tr.seqN (by kernel_rfl) ?_
                refine Tr.regionN (by kernel_rfl) ?_
                refine TrAt.goS good 3 [(4, vI .u32 0), (5, vI .i64 0), (6, vI .i64 2)] [] (by kernel_rfl) ?_
                refine TrAt.end_ (by kernel_rfl) ?_
                refine thenQ_n ?_
                refine Tr.conv (Conv.normT (keep := [4, 5, 6]) (ρ := []) ⟨upd (upd (upd (deadT) 6 (vI .i64 2)) 5 (vI .i64 0)) 4 (vI .u32 0), emptyS, 58, []⟩ (by kernel_rfl)) ?_
                refine Tr.retN (by kernel_rfl) ?_
                refine thenQ_r ?_
                refine inBlockQ_r ?_
                refine thenQ_r ?_
                refine loopQ_r ?_
                refine exQ_r ?_
                refine retJ_r ?_
                exact ⟨(0, 0, 2), (Option.some.inj h2176).symm, rfl⟩
              · intro g2182
                have h2176 := cond_f g2182 h2176
                refine Tr.skipN (by kernel_rfl) ?_
                refine thenQ_n ?_
                refine Tr.seqN (by kernel_rfl) ?_
                refine Tr.regionN (by kernel_rfl) ?_
                refine TrAt.goS good 7 [(45, vI .u32 y2109), (46, vI .u8 (bt x1233 y2108)), (47, vI .u8 (Int.tmod (bt x1233 y2108) 128)), (48, vI .u32 (IntKind.wrap .u32 (Int.tmod (bt x1233 y2108) 128))), (49, vI .i64 y2110), (50, vI .i64 (IntKind.wrap .i64 (7 * y2110))), (51, vI .u64 (IntKind.wrap .u64 (IntKind.wrap .i64 (7 * y2110))))] [] (by kernel_rfl) ?_
                obtain ⟨g2186, h2176⟩ := grd_out h2176
                refine TrAt.lawP 52 _ _ (by kernel_rfl) (by kernel_rfl) (by kernel_rfl) (by kernel_rfl) (shl_ok good (t := 22) (q := 36) (x := .tmp 48) (y := .tmp 51) (k := .u32) (k' := .u64) (a := (IntKind.wrap .u32 (Int.tmod (bt x1233 y2108) 128))) (b := (IntKind.wrap .u64 (IntKind.wrap .i64 (7 * y2110)))) (by kernel_rfl) (by kernel_rfl) (by kernel_rfl) g2186) ?_
                refine TrAt.goS good 2 [(53, vI .u32 (Go.bits .or .u32 y2109 (IntKind.wrap .u32 ((IntKind.wrap .u32 (Int.tmod (bt x1233 y2108) 128)) * 2 ^ min ((IntKind.wrap .u64 (IntKind.wrap .i64 (7 * y2110)))).toNat (IntKind.bits .u32))))), (7, vI .u32 (Go.bits .or .u32 y2109 (IntKind.wrap .u32 ((IntKind.wrap .u32 (Int.tmod (bt x1233 y2108) 128)) * 2 ^ min ((IntKind.wrap .u64 (IntKind.wrap .i64 (7 * y2110)))).toNat (IntKind.bits .u32)))))] [] (by kernel_rfl) ?_
                obtain ⟨x2187, h2188, h2176⟩ := bnd_out h2176
                rw [← h2188]
                refine TrAt.end_ (by kernel_rfl) ?_
                refine thenQ_n ?_
                refine Tr.seqN (by kernel_rfl) ?_
                refine Tr.regionN (by kernel_rfl) ?_
                refine TrAt.goS good 2 [(54, vI .u8 (bt x1233 y2108)), (55, vB (decide ((bt x1233 y2108) < 128)))] [] (by kernel_rfl) ?_
                refine TrAt.end_ (by kernel_rfl) ?_
                refine thenQ_n ?_
                refine Tr.condN (decide ((bt x1233 y2108) < 128)) (by kernel_rfl) (by kernel_rfl) ?_ ?_
                · intro g2189
                  have h2176 := cond_t g2189 h2176
                  refine Tr.conv (Conv.normT (keep := [1, 7]) (ρ := []) ⟨upd (upd (deadT) 7 (vI .u32 x2187)) 1 (vI .i64 (IntKind.wrap .i64 (y2108 + 1))), emptyS, 58, []⟩ (by kernel_rfl)) ?_
                  refine Tr.exitN (by kernel_rfl) ?_
                  refine inBlockQ_miss (by kernel_rfl) ?_
                  refine thenQ_x ?_
                  refine loopQ_x ?_
                  refine exQ_hit (by kernel_rfl) ?_
                  exact ⟨((IntKind.wrap .i64 (y2108 + 1)), x2187), (Option.some.inj h2176).symm, rfl⟩
                · intro g2189
                  have h2176 := cond_f g2189 h2176
                  refine Tr.skipN (by kernel_rfl) ?_
                  refine inBlockQ_n ?_
                  refine thenQ_n ?_
                  refine Tr.regionN (by kernel_rfl) ?_
                  refine TrAt.goS good 3 [(20, vI .i64 y2110), (21, vI .i64 (IntKind.wrap .i64 (y2110 + 1))), (8, vI .i64 (IntKind.wrap .i64 (y2110 + 1)))] [] (by kernel_rfl) ?_
                  refine TrAt.conv (Conv.normT (keep := [0, 1, 7, 8]) (ρ := []) ⟨upd (upd (upd (upd (deadT) 8 (vI .i64 (IntKind.wrap .i64 (y2110 + 1)))) 7 (vI .u32 x2187)) 1 (vI .i64 (IntKind.wrap .i64 (y2108 + 1)))) 0 (vS x1233), emptyS, 58, []⟩ (by kernel_rfl)) ?_
                  refine TrAt.end_ (by kernel_rfl) ?_
                  refine loopQ_n ?_
                  exact ⟨(IntKind.wrap .i64 (y2108 + 1)), x2187, (IntKind.wrap .i64 (y2110 + 1)), h2176, rfl⟩
        · intro g2178
          have h2176 := cond_f g2178 h2176
          refine Tr.conv (Conv.normT (keep := [1, 7]) (ρ := []) ⟨upd (upd (deadT) 7 (vI .u32 y2109)) 1 (vI .i64 y2108), emptyS, 58, []⟩ (by kernel_rfl)) ?_
          refine Tr.exitN (by kernel_rfl) ?_
          refine thenQ_x ?_
          refine loopQ_x ?_
          refine exQ_hit (by kernel_rfl) ?_
          exact ⟨(y2108, y2109), (Option.some.inj h2176).symm, rfl⟩
def F4_1 (k : Nat) (y2222 : Bool) : Option Bool :=
  some y2222
def F4 (k : Nat) (x1227 : ByteArray) (x1228 : Int) : Option Bool :=
  (F14 k x1227 x1228).bind fun y2211 =>
  (F15 k x1227 x1228).bind fun y2215 =>
  (F9 k).bind fun y2223 =>
  cond y2223 (cond (y2211.1 == y2215.1) (cond (y2211.2.1 == y2215.2.1) (F4_1 k (y2211.2.2 == y2215.2.2)) (F4_1 k false)) (F4_1 k false)) (F4_1 k false)
theorem ct_F4 (k : Nat) (x1227 : ByteArray) (x1228 : Int) (r : Bool) (h0 : F4 k x1227 x1228 = some r) : CTd Try.prog 4 [vS x1227, vI .i64 x1228] [] (vB r) (emptyS) := by
  refine CTd.of_tr Try.f4 Try.func4 (by kernel_rfl) ?_
  unfold F4 at h0
  refine Tr.conv (Conv.normT (keep := [0, 1]) (ρ := []) ⟨upd (upd (deadT) 1 (vI .i64 x1228)) 0 (vS x1227), emptyS, 41, []⟩ (by kernel_rfl)) ?_
  refine Tr.seqN (by kernel_rfl) ?_
  refine Tr.regionN (by kernel_rfl) ?_
  refine TrAt.goS good 1 [(4, vB false)] [] (by kernel_rfl) ?_
  refine TrAt.end_ (by kernel_rfl) ?_
  refine thenQ_n ?_
  refine Tr.seqN (by kernel_rfl) ?_
  refine Tr.regionN (by kernel_rfl) ?_
  refine TrAt.goS good 2 [(12, vS x1227), (13, vI .i64 x1228)] [] (by kernel_rfl) ?_
  obtain ⟨y2211, h2212, h0⟩ := bind_out h0
  refine TrAt.callD (caps := []) 14 (.tp [vI .u32 y2211.1, vI .i64 y2211.2.1, vI .i64 y2211.2.2]) [] [] (.func 14) #[.tmp 12, .tmp 13] #[9, 3] (ct_F14 k x1227 x1228 y2211 h2212) Try.func14 (by kernel_rfl) (by kernel_rfl) (by kernel_rfl) (by kernel_rfl) (by kernel_rfl) (by kernel_rfl) (by kernel_rfl) (by kernel_rfl) (by kernel_rfl) (by kernel_rfl) (by kernel_rfl) (by kernel_rfl) (by kernel_rfl) (by kernel_rfl) (by kernel_rfl) ?_
  refine TrAt.goS good 7 [(11, .tp [vI .u32 y2211.1, vI .i64 y2211.2.1, vI .i64 y2211.2.2]), (15, vI .u32 y2211.1), (16, vI .i64 y2211.2.1), (17, vI .i64 y2211.2.2), (5, vI .u32 y2211.1), (6, vI .i64 y2211.2.1), (7, vI .i64 y2211.2.2)] [] (by kernel_rfl) ?_
  refine TrAt.end_ (by kernel_rfl) ?_
  refine thenQ_n ?_
  refine Tr.seqN (by kernel_rfl) ?_
  refine Tr.regionN (by kernel_rfl) ?_
  refine TrAt.goS good 2 [(19, vS x1227), (20, vI .i64 x1228)] [] (by kernel_rfl) ?_
  obtain ⟨y2215, h2216, h0⟩ := bind_out h0
  refine TrAt.callD (caps := []) 21 (.tp [vI .u32 y2215.1, vI .i64 y2215.2.1, vI .i64 y2215.2.2]) [] [] (.func 15) #[.tmp 19, .tmp 20] #[9, 3] (ct_F15 k x1227 x1228 y2215 h2216) Try.func15 (by kernel_rfl) (by kernel_rfl) (by kernel_rfl) (by kernel_rfl) (by kernel_rfl) (by kernel_rfl) (by kernel_rfl) (by kernel_rfl) (by kernel_rfl) (by kernel_rfl) (by kernel_rfl) (by kernel_rfl) (by kernel_rfl) (by kernel_rfl) (by kernel_rfl) ?_
  refine TrAt.goS good 7 [(18, .tp [vI .u32 y2215.1, vI .i64 y2215.2.1, vI .i64 y2215.2.2]), (22, vI .u32 y2215.1), (23, vI .i64 y2215.2.1), (24, vI .i64 y2215.2.2), (8, vI .u32 y2215.1), (9, vI .i64 y2215.2.1), (10, vI .i64 y2215.2.2)] [] (by kernel_rfl) ?_
  refine TrAt.end_ (by kernel_rfl) ?_
  refine thenQ_n ?_
  refine Tr.seqI (fun st => ∃ y2222, F4_1 k y2222 = some r ∧ st = ⟨upd (deadT) 4 (vB y2222), emptyS, 41, []⟩) (by kernel_rfl) ?_ ?_
  · refine Tr.conv (Conv.normT (keep := [5, 6, 7, 8, 9, 10]) (ρ := []) ⟨upd (upd (upd (upd (upd (upd (deadT) 10 (vI .i64 y2215.2.2)) 9 (vI .i64 y2215.2.1)) 8 (vI .u32 y2215.1)) 7 (vI .i64 y2211.2.2)) 6 (vI .i64 y2211.2.1)) 5 (vI .u32 y2211.1), emptyS, 41, []⟩ (by kernel_rfl)) ?_
    refine Tr.regionN (by kernel_rfl) ?_
    obtain ⟨y2223, h2224, h0⟩ := bind_out h0
    refine TrAt.callD (caps := []) 25 (vB y2223) [] [] (.func 9) #[] #[] (ct_F9 k y2223 h2224) Try.func9 (by kernel_rfl) (by kernel_rfl) (by kernel_rfl) (by kernel_rfl) (by kernel_rfl) (by kernel_rfl) (by kernel_rfl) (by kernel_rfl) (by kernel_rfl) (by kernel_rfl) (by kernel_rfl) (by kernel_rfl) (by kernel_rfl) (by kernel_rfl) (by kernel_rfl) ?_
    refine TrAt.goS good 1 [(26, vB y2223)] [] (by kernel_rfl) ?_
    cases g2225 : (y2223 : Bool) with
    | true =>
      have h0 := cond_t g2225 h0
      refine TrAt.goS good 5 [(27, vI .u32 y2211.1), (28, vI .u32 y2215.1), (29, vB (y2211.1 == y2215.1)), (30, vB (y2211.1 == y2215.1)), (31, vB (y2211.1 == y2215.1))] [] (by kernel_rfl) ?_
      cases g2226 : ((y2211.1 == y2215.1) : Bool) with
      | true =>
        have h0 := cond_t g2226 h0
        refine TrAt.goS good 5 [(32, vI .i64 y2211.2.1), (33, vI .i64 y2215.2.1), (34, vB (y2211.2.1 == y2215.2.1)), (35, vB (y2211.2.1 == y2215.2.1)), (36, vB (y2211.2.1 == y2215.2.1))] [] (by kernel_rfl) ?_
        cases g2227 : ((y2211.2.1 == y2215.2.1) : Bool) with
        | true =>
          have h0 := cond_t g2227 h0
          refine TrAt.goS good 5 [(37, vI .i64 y2211.2.2), (38, vI .i64 y2215.2.2), (39, vB (y2211.2.2 == y2215.2.2)), (40, vB (y2211.2.2 == y2215.2.2)), (4, vB (y2211.2.2 == y2215.2.2))] [] (by kernel_rfl) ?_
          refine TrAt.conv (Conv.normT (keep := [4]) (ρ := []) ⟨upd (deadT) 4 (vB (y2211.2.2 == y2215.2.2)), emptyS, 41, []⟩ (by kernel_rfl)) ?_
          refine TrAt.end_ (by kernel_rfl) ?_
          refine thenI_n ?_
          exact ⟨(y2211.2.2 == y2215.2.2), h0, rfl⟩
        | false =>
          have h0 := cond_f g2227 h0
          refine TrAt.goS good 5 [(37, .tp []), (38, .tp []), (39, .tp []), (40, vB false), (4, vB false)] [] (by kernel_rfl) ?_
          refine TrAt.conv (Conv.normT (keep := [4]) (ρ := []) ⟨upd (deadT) 4 (vB false), emptyS, 41, []⟩ (by kernel_rfl)) ?_
          refine TrAt.end_ (by kernel_rfl) ?_
          refine thenI_n ?_
          exact ⟨false, h0, rfl⟩
      | false =>
        have h0 := cond_f g2226 h0
        refine TrAt.goS good 10 [(32, .tp []), (33, .tp []), (34, .tp []), (35, vB false), (36, vB false), (37, .tp []), (38, .tp []), (39, .tp []), (40, vB false), (4, vB false)] [] (by kernel_rfl) ?_
        refine TrAt.conv (Conv.normT (keep := [4]) (ρ := []) ⟨upd (deadT) 4 (vB false), emptyS, 41, []⟩ (by kernel_rfl)) ?_
        refine TrAt.end_ (by kernel_rfl) ?_
        refine thenI_n ?_
        exact ⟨false, h0, rfl⟩
    | false =>
      have h0 := cond_f g2225 h0
      refine TrAt.goS good 15 [(27, .tp []), (28, .tp []), (29, .tp []), (30, vB false), (31, vB false), (32, .tp []), (33, .tp []), (34, .tp []), (35, vB false), (36, vB false), (37, .tp []), (38, .tp []), (39, .tp []), (40, vB false), (4, vB false)] [] (by kernel_rfl) ?_
      refine TrAt.conv (Conv.normT (keep := [4]) (ρ := []) ⟨upd (deadT) 4 (vB false), emptyS, 41, []⟩ (by kernel_rfl)) ?_
      refine TrAt.end_ (by kernel_rfl) ?_
      refine thenI_n ?_
      exact ⟨false, h0, rfl⟩
  · rintro st ⟨y2222, h0, rfl⟩
    unfold F4_1 at h0
    refine Tr.conv (Conv.normT (keep := [4]) (ρ := []) ⟨upd (deadT) 4 (vB y2222), emptyS, 41, []⟩ (by kernel_rfl)) ?_
    refine Tr.retN (by kernel_rfl) ?_
    cases h0
    exact finQ_r (by kernel_rfl) (by kernel_rfl)
def F16 (k : Nat) (x2231 : ByteArray) (x2232 : Int) (x2233 : Int) : Option (ByteArray × Int × Int) :=
  (F14 k x2231 x2232).bind fun y2264 =>
  cond (y2264.2.2 != 0) (some ((ByteArray.mk #[]), 0, y2264.2.2)) (cond (decide ((mx x2233 0) < (IntKind.wrap .i64 y2264.1))) (some ((ByteArray.mk #[]), 0, 4)) (bnd (decide ((IntKind.wrap .i64 ((x2231.size : Int) - y2264.2.1)) < (IntKind.wrap .i64 y2264.1))) fun x2280 =>
  cond x2280 (some ((ByteArray.mk #[]), 0, 3)) (grd (bnds (x2231.size : Int) y2264.2.1 (IntKind.wrap .i64 (y2264.2.1 + (IntKind.wrap .i64 y2264.1)))) <|
  bnd (x2231.extract (y2264.2.1).toNat ((IntKind.wrap .i64 (y2264.2.1 + (IntKind.wrap .i64 y2264.1)))).toNat) fun x2287 =>
  some (x2287, (IntKind.wrap .i64 (y2264.2.1 + (IntKind.wrap .i64 y2264.1))), 0))))
theorem ct_F16 (k : Nat) (x2231 : ByteArray) (x2232 : Int) (x2233 : Int) (r : (ByteArray × Int × Int)) (h0 : F16 k x2231 x2232 x2233 = some r) : CTd Try.prog 16 [vS x2231, vI .i64 x2232, vI .i64 x2233] [] (.tp [vS r.1, vI .i64 r.2.1, vI .i64 r.2.2]) (emptyS) := by
  refine CTd.of_tr Try.f16 Try.func16 (by kernel_rfl) ?_
  unfold F16 at h0
  refine Tr.conv (Conv.normT (keep := [0, 1, 2]) (ρ := []) ⟨upd (upd (upd (deadT) 2 (vI .i64 x2233)) 1 (vI .i64 x2232)) 0 (vS x2231), emptyS, 47, []⟩ (by kernel_rfl)) ?_
  refine Tr.seqN (by kernel_rfl) ?_
  refine Tr.regionN (by kernel_rfl) ?_
  refine TrAt.goS good 3 [(6, vS (ByteArray.mk #[])), (7, vI .i64 0), (8, vI .i64 0)] [] (by kernel_rfl) ?_
  refine TrAt.end_ (by kernel_rfl) ?_
  refine thenQ_n ?_
  refine Tr.seqN (by kernel_rfl) ?_
  refine Tr.regionN (by kernel_rfl) ?_
  refine TrAt.goS good 2 [(12, vS x2231), (13, vI .i64 x2232)] [] (by kernel_rfl) ?_
  obtain ⟨y2264, h2265, h0⟩ := bind_out h0
  refine TrAt.callD (caps := []) 14 (.tp [vI .u32 y2264.1, vI .i64 y2264.2.1, vI .i64 y2264.2.2]) [] [] (.func 14) #[.tmp 12, .tmp 13] #[9, 3] (ct_F14 k x2231 x2232 y2264 h2265) Try.func14 (by kernel_rfl) (by kernel_rfl) (by kernel_rfl) (by kernel_rfl) (by kernel_rfl) (by kernel_rfl) (by kernel_rfl) (by kernel_rfl) (by kernel_rfl) (by kernel_rfl) (by kernel_rfl) (by kernel_rfl) (by kernel_rfl) (by kernel_rfl) (by kernel_rfl) ?_
  refine TrAt.goS good 7 [(11, .tp [vI .u32 y2264.1, vI .i64 y2264.2.1, vI .i64 y2264.2.2]), (15, vI .u32 y2264.1), (16, vI .i64 y2264.2.1), (17, vI .i64 y2264.2.2), (9, vI .u32 y2264.1), (1, vI .i64 y2264.2.1), (10, vI .i64 y2264.2.2)] [] (by kernel_rfl) ?_
  refine TrAt.end_ (by kernel_rfl) ?_
  refine thenQ_n ?_
  refine Tr.seqN (by kernel_rfl) ?_
  refine Tr.blockN (by kernel_rfl) ?_
  refine Tr.seqN (by kernel_rfl) ?_
  refine Tr.regionN (by kernel_rfl) ?_
  refine TrAt.goS good 3 [(19, vI .i64 y2264.2.2), (20, vB (y2264.2.2 != 0)), (18, vB (y2264.2.2 != 0))] [] (by kernel_rfl) ?_
  refine TrAt.end_ (by kernel_rfl) ?_
  refine thenQ_n ?_
  refine Tr.condN (y2264.2.2 != 0) (by kernel_rfl) (by kernel_rfl) ?_ ?_
  · intro g2278
    have h0 := cond_t g2278 h0
    refine Tr.seqN (by kernel_rfl) ?_
    refine Tr.conv (Conv.normT (keep := [10]) (ρ := []) ⟨upd (deadT) 10 (vI .i64 y2264.2.2), emptyS, 47, []⟩ (by kernel_rfl)) ?_
    refine Tr.regionN (by kernel_rfl) ?_
    refine TrAt.goS good 4 [(21, vI .i64 y2264.2.2), (6, vS (ByteArray.mk #[])), (7, vI .i64 0), (8, vI .i64 y2264.2.2)] [] (by kernel_rfl) ?_
    refine TrAt.end_ (by kernel_rfl) ?_
    refine thenQ_n ?_
    refine Tr.conv (Conv.normT (keep := [6, 7, 8]) (ρ := []) ⟨upd (upd (upd (deadT) 8 (vI .i64 y2264.2.2)) 7 (vI .i64 0)) 6 (vS (ByteArray.mk #[])), emptyS, 47, []⟩ (by kernel_rfl)) ?_
    refine Tr.retN (by kernel_rfl) ?_
    refine inBlockQ_r ?_
    refine thenQ_r ?_
    cases h0
    exact finQ_r (by kernel_rfl) (by kernel_rfl)
  · intro g2278
    have h0 := cond_f g2278 h0
    refine Tr.seqN (by kernel_rfl) ?_
    refine Tr.regionN (by kernel_rfl) ?_
    refine TrAt.goS good 6 [(23, vI .u32 y2264.1), (24, vI .i64 (IntKind.wrap .i64 y2264.1)), (25, vI .i64 x2233), (26, vI .i64 (mx x2233 0)), (27, vB (decide ((mx x2233 0) < (IntKind.wrap .i64 y2264.1)))), (22, vB (decide ((mx x2233 0) < (IntKind.wrap .i64 y2264.1))))] [] (by kernel_rfl) ?_
    refine TrAt.end_ (by kernel_rfl) ?_
    refine thenQ_n ?_
    refine Tr.condN (decide ((mx x2233 0) < (IntKind.wrap .i64 y2264.1))) (by kernel_rfl) (by kernel_rfl) ?_ ?_
    · intro g2279
      have h0 := cond_t g2279 h0
      refine Tr.seqN (by kernel_rfl) ?_
      refine Tr.conv (Conv.normT (keep := []) (ρ := []) ⟨deadT, emptyS, 47, []⟩ (by kernel_rfl)) ?_
      refine Tr.regionN (by kernel_rfl) ?_
      refine TrAt.goS good 3 [(6, vS (ByteArray.mk #[])), (7, vI .i64 0), (8, vI .i64 4)] [] (by kernel_rfl) ?_
      refine TrAt.end_ (by kernel_rfl) ?_
      refine thenQ_n ?_
      refine Tr.conv (Conv.normT (keep := [6, 7, 8]) (ρ := []) ⟨upd (upd (upd (deadT) 8 (vI .i64 4)) 7 (vI .i64 0)) 6 (vS (ByteArray.mk #[])), emptyS, 47, []⟩ (by kernel_rfl)) ?_
      refine Tr.retN (by kernel_rfl) ?_
      refine inBlockQ_r ?_
      refine thenQ_r ?_
      cases h0
      exact finQ_r (by kernel_rfl) (by kernel_rfl)
    · intro g2279
      have h0 := cond_f g2279 h0
      refine Tr.seqN (by kernel_rfl) ?_
      refine Tr.conv (Conv.normT (keep := [0, 1, 9]) (ρ := []) ⟨upd (upd (upd (deadT) 9 (vI .u32 y2264.1)) 1 (vI .i64 y2264.2.1)) 0 (vS x2231), emptyS, 47, []⟩ (by kernel_rfl)) ?_
      refine Tr.regionN (by kernel_rfl) ?_
      refine TrAt.goS good 8 [(29, vI .u32 y2264.1), (30, vI .i64 (IntKind.wrap .i64 y2264.1)), (31, vS x2231), (32, vI .i64 (x2231.size : Int)), (33, vI .i64 y2264.2.1), (34, vI .i64 (IntKind.wrap .i64 ((x2231.size : Int) - y2264.2.1))), (35, vB (decide ((IntKind.wrap .i64 ((x2231.size : Int) - y2264.2.1)) < (IntKind.wrap .i64 y2264.1)))), (28, vB (decide ((IntKind.wrap .i64 ((x2231.size : Int) - y2264.2.1)) < (IntKind.wrap .i64 y2264.1))))] [] (by kernel_rfl) ?_
      obtain ⟨x2280, h2281, h0⟩ := bnd_out h0
      rw [← h2281]
      refine TrAt.end_ (by kernel_rfl) ?_
      refine thenQ_n ?_
      refine Tr.condN x2280 (by kernel_rfl) (by kernel_rfl) ?_ ?_
      · intro g2282
        have h0 := cond_t g2282 h0
        refine Tr.seqN (by kernel_rfl) ?_
        refine Tr.regionN (by kernel_rfl) ?_
        refine TrAt.goS good 3 [(6, vS (ByteArray.mk #[])), (7, vI .i64 0), (8, vI .i64 3)] [] (by kernel_rfl) ?_
        refine TrAt.end_ (by kernel_rfl) ?_
        refine thenQ_n ?_
        refine Tr.conv (Conv.normT (keep := [6, 7, 8]) (ρ := []) ⟨upd (upd (upd (deadT) 8 (vI .i64 3)) 7 (vI .i64 0)) 6 (vS (ByteArray.mk #[])), emptyS, 47, []⟩ (by kernel_rfl)) ?_
        refine Tr.retN (by kernel_rfl) ?_
        refine inBlockQ_r ?_
        refine thenQ_r ?_
        cases h0
        exact finQ_r (by kernel_rfl) (by kernel_rfl)
      · intro g2282
        have h0 := cond_f g2282 h0
        refine Tr.skipN (by kernel_rfl) ?_
        refine inBlockQ_n ?_
        refine thenQ_n ?_
        refine Tr.seqN (by kernel_rfl) ?_
        refine Tr.regionN (by kernel_rfl) ?_
        refine TrAt.goS good 6 [(36, vS x2231), (37, vI .i64 y2264.2.1), (38, vI .i64 y2264.2.1), (39, vI .u32 y2264.1), (40, vI .i64 (IntKind.wrap .i64 y2264.1)), (41, vI .i64 (IntKind.wrap .i64 (y2264.2.1 + (IntKind.wrap .i64 y2264.1))))] [] (by kernel_rfl) ?_
        obtain ⟨g2286, h0⟩ := grd_out h0
        refine TrAt.lawP 42 _ _ (by kernel_rfl) (by kernel_rfl) (by kernel_rfl) (by kernel_rfl) (cutStr_ok good (t := 9) (x := .tmp 36) (lo := (some (.tmp 37))) (hi := (some (.tmp 41))) (b := x2231) (l := y2264.2.1) (h := (IntKind.wrap .i64 (y2264.2.1 + (IntKind.wrap .i64 y2264.1)))) (by kernel_rfl) (by kernel_rfl) (by kernel_rfl) (by kernel_rfl) (by kernel_rfl) g2286) ?_
        refine TrAt.goS good 5 [(43, vI .i64 y2264.2.1), (44, vI .u32 y2264.1), (45, vI .i64 (IntKind.wrap .i64 y2264.1)), (46, vI .i64 (IntKind.wrap .i64 (y2264.2.1 + (IntKind.wrap .i64 y2264.1)))), (6, vS (x2231.extract (y2264.2.1).toNat ((IntKind.wrap .i64 (y2264.2.1 + (IntKind.wrap .i64 y2264.1)))).toNat))] [] (by kernel_rfl) ?_
        obtain ⟨x2287, h2288, h0⟩ := bnd_out h0
        rw [← h2288]
        refine TrAt.goS good 2 [(7, vI .i64 (IntKind.wrap .i64 (y2264.2.1 + (IntKind.wrap .i64 y2264.1)))), (8, vI .i64 0)] [] (by kernel_rfl) ?_
        refine TrAt.end_ (by kernel_rfl) ?_
        refine thenQ_n ?_
        refine Tr.conv (Conv.normT (keep := [6, 7, 8]) (ρ := []) ⟨upd (upd (upd (deadT) 8 (vI .i64 0)) 7 (vI .i64 (IntKind.wrap .i64 (y2264.2.1 + (IntKind.wrap .i64 y2264.1))))) 6 (vS x2287), emptyS, 47, []⟩ (by kernel_rfl)) ?_
        refine Tr.retN (by kernel_rfl) ?_
        cases h0
        exact finQ_r (by kernel_rfl) (by kernel_rfl)
def F17 (k : Nat) (x2293 : ByteArray) (x2294 : Int) (x2295 : Int) : Option (ByteArray × Int × Int) :=
  (F15 k x2293 x2294).bind fun y2315 =>
  cond (y2315.2.2 != 0) (some ((ByteArray.mk #[]), 0, y2315.2.2)) (cond (decide ((mx x2295 0) < (IntKind.wrap .i64 y2315.1))) (some ((ByteArray.mk #[]), 0, 4)) (cond (decide ((IntKind.wrap .i64 ((x2293.size : Int) - y2315.2.1)) < (IntKind.wrap .i64 y2315.1))) (some ((ByteArray.mk #[]), 0, 3)) (grd (bnds (x2293.size : Int) y2315.2.1 (IntKind.wrap .i64 (y2315.2.1 + (IntKind.wrap .i64 y2315.1)))) <|
  bnd (x2293.extract (y2315.2.1).toNat ((IntKind.wrap .i64 (y2315.2.1 + (IntKind.wrap .i64 y2315.1)))).toNat) fun x2327 =>
  some (x2327, (IntKind.wrap .i64 (y2315.2.1 + (IntKind.wrap .i64 y2315.1))), 0))))
theorem ct_F17 (k : Nat) (x2293 : ByteArray) (x2294 : Int) (x2295 : Int) (r : (ByteArray × Int × Int)) (h0 : F17 k x2293 x2294 x2295 = some r) : CTd Try.prog 17 [vS x2293, vI .i64 x2294, vI .i64 x2295] [] (.tp [vS r.1, vI .i64 r.2.1, vI .i64 r.2.2]) (emptyS) := by
  refine CTd.of_tr Try.f17 Try.func17 (by kernel_rfl) ?_
  unfold F17 at h0
  refine Tr.conv (Conv.normT (keep := [0, 1, 2]) (ρ := []) ⟨upd (upd (upd (deadT) 2 (vI .i64 x2295)) 1 (vI .i64 x2294)) 0 (vS x2293), emptyS, 45, []⟩ (by kernel_rfl)) ?_
  refine Tr.seqN (by kernel_rfl) ?_
  refine Tr.regionN (by kernel_rfl) ?_
  refine TrAt.goS good 3 [(6, vS (ByteArray.mk #[])), (7, vI .i64 0), (8, vI .i64 0)] [] (by kernel_rfl) ?_
  refine TrAt.end_ (by kernel_rfl) ?_
  refine thenQ_n ?_
  refine Tr.seqN (by kernel_rfl) ?_
  refine Tr.regionN (by kernel_rfl) ?_
  refine TrAt.goS good 2 [(13, vS x2293), (14, vI .i64 x2294)] [] (by kernel_rfl) ?_
  obtain ⟨y2315, h2316, h0⟩ := bind_out h0
  refine TrAt.callD (caps := []) 15 (.tp [vI .u32 y2315.1, vI .i64 y2315.2.1, vI .i64 y2315.2.2]) [] [] (.func 15) #[.tmp 13, .tmp 14] #[9, 3] (ct_F15 k x2293 x2294 y2315 h2316) Try.func15 (by kernel_rfl) (by kernel_rfl) (by kernel_rfl) (by kernel_rfl) (by kernel_rfl) (by kernel_rfl) (by kernel_rfl) (by kernel_rfl) (by kernel_rfl) (by kernel_rfl) (by kernel_rfl) (by kernel_rfl) (by kernel_rfl) (by kernel_rfl) (by kernel_rfl) ?_
  refine TrAt.goS good 7 [(12, .tp [vI .u32 y2315.1, vI .i64 y2315.2.1, vI .i64 y2315.2.2]), (16, vI .u32 y2315.1), (17, vI .i64 y2315.2.1), (18, vI .i64 y2315.2.2), (9, vI .u32 y2315.1), (10, vI .i64 y2315.2.1), (11, vI .i64 y2315.2.2)] [] (by kernel_rfl) ?_
  refine TrAt.end_ (by kernel_rfl) ?_
  refine thenQ_n ?_
  refine Tr.seqN (by kernel_rfl) ?_
  refine Tr.seqN (by kernel_rfl) ?_
  refine Tr.regionN (by kernel_rfl) ?_
  refine TrAt.goS good 2 [(19, vI .i64 y2315.2.2), (20, vB (y2315.2.2 != 0))] [] (by kernel_rfl) ?_
  refine TrAt.end_ (by kernel_rfl) ?_
  refine thenQ_n ?_
  refine Tr.condN (y2315.2.2 != 0) (by kernel_rfl) (by kernel_rfl) ?_ ?_
  · intro g2318
    have h0 := cond_t g2318 h0
    refine Tr.seqN (by kernel_rfl) ?_
    refine Tr.conv (Conv.normT (keep := [11]) (ρ := []) ⟨upd (deadT) 11 (vI .i64 y2315.2.2), emptyS, 45, []⟩ (by kernel_rfl)) ?_
    refine Tr.regionN (by kernel_rfl) ?_
    refine TrAt.goS good 4 [(21, vI .i64 y2315.2.2), (6, vS (ByteArray.mk #[])), (7, vI .i64 0), (8, vI .i64 y2315.2.2)] [] (by kernel_rfl) ?_
    refine TrAt.end_ (by kernel_rfl) ?_
    refine thenQ_n ?_
    refine Tr.conv (Conv.normT (keep := [6, 7, 8]) (ρ := []) ⟨upd (upd (upd (deadT) 8 (vI .i64 y2315.2.2)) 7 (vI .i64 0)) 6 (vS (ByteArray.mk #[])), emptyS, 45, []⟩ (by kernel_rfl)) ?_
    refine Tr.retN (by kernel_rfl) ?_
    refine thenQ_r ?_
    cases h0
    exact finQ_r (by kernel_rfl) (by kernel_rfl)
  · intro g2318
    have h0 := cond_f g2318 h0
    refine Tr.skipN (by kernel_rfl) ?_
    refine thenQ_n ?_
    refine Tr.seqN (by kernel_rfl) ?_
    refine Tr.seqN (by kernel_rfl) ?_
    refine Tr.regionN (by kernel_rfl) ?_
    refine TrAt.goS good 5 [(22, vI .u32 y2315.1), (23, vI .i64 (IntKind.wrap .i64 y2315.1)), (24, vI .i64 x2295), (25, vI .i64 (mx x2295 0)), (26, vB (decide ((mx x2295 0) < (IntKind.wrap .i64 y2315.1))))] [] (by kernel_rfl) ?_
    refine TrAt.end_ (by kernel_rfl) ?_
    refine thenQ_n ?_
    refine Tr.condN (decide ((mx x2295 0) < (IntKind.wrap .i64 y2315.1))) (by kernel_rfl) (by kernel_rfl) ?_ ?_
    · intro g2320
      have h0 := cond_t g2320 h0
      refine Tr.seqN (by kernel_rfl) ?_
      refine Tr.conv (Conv.normT (keep := []) (ρ := []) ⟨deadT, emptyS, 45, []⟩ (by kernel_rfl)) ?_
      refine Tr.regionN (by kernel_rfl) ?_
      refine TrAt.goS good 3 [(6, vS (ByteArray.mk #[])), (7, vI .i64 0), (8, vI .i64 4)] [] (by kernel_rfl) ?_
      refine TrAt.end_ (by kernel_rfl) ?_
      refine thenQ_n ?_
      refine Tr.conv (Conv.normT (keep := [6, 7, 8]) (ρ := []) ⟨upd (upd (upd (deadT) 8 (vI .i64 4)) 7 (vI .i64 0)) 6 (vS (ByteArray.mk #[])), emptyS, 45, []⟩ (by kernel_rfl)) ?_
      refine Tr.retN (by kernel_rfl) ?_
      refine thenQ_r ?_
      cases h0
      exact finQ_r (by kernel_rfl) (by kernel_rfl)
    · intro g2320
      have h0 := cond_f g2320 h0
      refine Tr.skipN (by kernel_rfl) ?_
      refine thenQ_n ?_
      refine Tr.seqN (by kernel_rfl) ?_
      refine Tr.seqN (by kernel_rfl) ?_
      refine Tr.conv (Conv.normT (keep := [0, 9, 10]) (ρ := []) ⟨upd (upd (upd (deadT) 10 (vI .i64 y2315.2.1)) 9 (vI .u32 y2315.1)) 0 (vS x2293), emptyS, 45, []⟩ (by kernel_rfl)) ?_
      refine Tr.regionN (by kernel_rfl) ?_
      refine TrAt.goS good 7 [(27, vI .u32 y2315.1), (28, vI .i64 (IntKind.wrap .i64 y2315.1)), (29, vS x2293), (30, vI .i64 (x2293.size : Int)), (31, vI .i64 y2315.2.1), (32, vI .i64 (IntKind.wrap .i64 ((x2293.size : Int) - y2315.2.1))), (33, vB (decide ((IntKind.wrap .i64 ((x2293.size : Int) - y2315.2.1)) < (IntKind.wrap .i64 y2315.1))))] [] (by kernel_rfl) ?_
      refine TrAt.end_ (by kernel_rfl) ?_
      refine thenQ_n ?_
      refine Tr.condN (decide ((IntKind.wrap .i64 ((x2293.size : Int) - y2315.2.1)) < (IntKind.wrap .i64 y2315.1))) (by kernel_rfl) (by kernel_rfl) ?_ ?_
      · intro g2322
        have h0 := cond_t g2322 h0
        refine Tr.seqN (by kernel_rfl) ?_
        refine Tr.regionN (by kernel_rfl) ?_
        refine TrAt.goS good 3 [(6, vS (ByteArray.mk #[])), (7, vI .i64 0), (8, vI .i64 3)] [] (by kernel_rfl) ?_
        refine TrAt.end_ (by kernel_rfl) ?_
        refine thenQ_n ?_
        refine Tr.conv (Conv.normT (keep := [6, 7, 8]) (ρ := []) ⟨upd (upd (upd (deadT) 8 (vI .i64 3)) 7 (vI .i64 0)) 6 (vS (ByteArray.mk #[])), emptyS, 45, []⟩ (by kernel_rfl)) ?_
        refine Tr.retN (by kernel_rfl) ?_
        refine thenQ_r ?_
        cases h0
        exact finQ_r (by kernel_rfl) (by kernel_rfl)
      · intro g2322
        have h0 := cond_f g2322 h0
        refine Tr.skipN (by kernel_rfl) ?_
        refine thenQ_n ?_
        refine Tr.seqN (by kernel_rfl) ?_
        refine Tr.regionN (by kernel_rfl) ?_
        refine TrAt.goS good 6 [(34, vS x2293), (35, vI .i64 y2315.2.1), (36, vI .i64 y2315.2.1), (37, vI .u32 y2315.1), (38, vI .i64 (IntKind.wrap .i64 y2315.1)), (39, vI .i64 (IntKind.wrap .i64 (y2315.2.1 + (IntKind.wrap .i64 y2315.1))))] [] (by kernel_rfl) ?_
        obtain ⟨g2326, h0⟩ := grd_out h0
        refine TrAt.lawP 40 _ _ (by kernel_rfl) (by kernel_rfl) (by kernel_rfl) (by kernel_rfl) (cutStr_ok good (t := 9) (x := .tmp 34) (lo := (some (.tmp 35))) (hi := (some (.tmp 39))) (b := x2293) (l := y2315.2.1) (h := (IntKind.wrap .i64 (y2315.2.1 + (IntKind.wrap .i64 y2315.1)))) (by kernel_rfl) (by kernel_rfl) (by kernel_rfl) (by kernel_rfl) (by kernel_rfl) g2326) ?_
        refine TrAt.goS good 5 [(41, vI .i64 y2315.2.1), (42, vI .u32 y2315.1), (43, vI .i64 (IntKind.wrap .i64 y2315.1)), (44, vI .i64 (IntKind.wrap .i64 (y2315.2.1 + (IntKind.wrap .i64 y2315.1)))), (6, vS (x2293.extract (y2315.2.1).toNat ((IntKind.wrap .i64 (y2315.2.1 + (IntKind.wrap .i64 y2315.1)))).toNat))] [] (by kernel_rfl) ?_
        obtain ⟨x2327, h2328, h0⟩ := bnd_out h0
        rw [← h2328]
        refine TrAt.goS good 2 [(7, vI .i64 (IntKind.wrap .i64 (y2315.2.1 + (IntKind.wrap .i64 y2315.1)))), (8, vI .i64 0)] [] (by kernel_rfl) ?_
        refine TrAt.end_ (by kernel_rfl) ?_
        refine thenQ_n ?_
        refine Tr.conv (Conv.normT (keep := [6, 7, 8]) (ρ := []) ⟨upd (upd (upd (deadT) 8 (vI .i64 0)) 7 (vI .i64 (IntKind.wrap .i64 (y2315.2.1 + (IntKind.wrap .i64 y2315.1))))) 6 (vS x2327), emptyS, 45, []⟩ (by kernel_rfl)) ?_
        refine Tr.retN (by kernel_rfl) ?_
        cases h0
        exact finQ_r (by kernel_rfl) (by kernel_rfl)
def F5_1 (k : Nat) (y2356 : Bool) : Option Bool :=
  some y2356
def F5 (k : Nat) (x2228 : ByteArray) (x2229 : Int) (x2230 : Int) : Option Bool :=
  (F16 k x2228 x2229 x2230).bind fun y2345 =>
  (F17 k x2228 x2229 x2230).bind fun y2349 =>
  (F9 k).bind fun y2357 =>
  cond y2357 (cond (y2345.1.toList == y2349.1.toList) (cond (y2345.2.1 == y2349.2.1) (F5_1 k (y2345.2.2 == y2349.2.2)) (F5_1 k false)) (F5_1 k false)) (F5_1 k false)
theorem ct_F5 (k : Nat) (x2228 : ByteArray) (x2229 : Int) (x2230 : Int) (r : Bool) (h0 : F5 k x2228 x2229 x2230 = some r) : CTd Try.prog 5 [vS x2228, vI .i64 x2229, vI .i64 x2230] [] (vB r) (emptyS) := by
  refine CTd.of_tr Try.f5 Try.func5 (by kernel_rfl) ?_
  unfold F5 at h0
  refine Tr.conv (Conv.normT (keep := [0, 1, 2]) (ρ := []) ⟨upd (upd (upd (deadT) 2 (vI .i64 x2230)) 1 (vI .i64 x2229)) 0 (vS x2228), emptyS, 45, []⟩ (by kernel_rfl)) ?_
  refine Tr.seqN (by kernel_rfl) ?_
  refine Tr.regionN (by kernel_rfl) ?_
  refine TrAt.goS good 1 [(6, vB false)] [] (by kernel_rfl) ?_
  refine TrAt.end_ (by kernel_rfl) ?_
  refine thenQ_n ?_
  refine Tr.seqN (by kernel_rfl) ?_
  refine Tr.regionN (by kernel_rfl) ?_
  refine TrAt.goS good 3 [(14, vS x2228), (15, vI .i64 x2229), (16, vI .i64 x2230)] [] (by kernel_rfl) ?_
  obtain ⟨y2345, h2346, h0⟩ := bind_out h0
  refine TrAt.callD (caps := []) 17 (.tp [vS y2345.1, vI .i64 y2345.2.1, vI .i64 y2345.2.2]) [] [] (.func 16) #[.tmp 14, .tmp 15, .tmp 16] #[9, 3, 3] (ct_F16 k x2228 x2229 x2230 y2345 h2346) Try.func16 (by kernel_rfl) (by kernel_rfl) (by kernel_rfl) (by kernel_rfl) (by kernel_rfl) (by kernel_rfl) (by kernel_rfl) (by kernel_rfl) (by kernel_rfl) (by kernel_rfl) (by kernel_rfl) (by kernel_rfl) (by kernel_rfl) (by kernel_rfl) (by kernel_rfl) ?_
  refine TrAt.goS good 7 [(13, .tp [vS y2345.1, vI .i64 y2345.2.1, vI .i64 y2345.2.2]), (18, vS y2345.1), (19, vI .i64 y2345.2.1), (20, vI .i64 y2345.2.2), (7, vS y2345.1), (8, vI .i64 y2345.2.1), (9, vI .i64 y2345.2.2)] [] (by kernel_rfl) ?_
  refine TrAt.end_ (by kernel_rfl) ?_
  refine thenQ_n ?_
  refine Tr.seqN (by kernel_rfl) ?_
  refine Tr.regionN (by kernel_rfl) ?_
  refine TrAt.goS good 3 [(22, vS x2228), (23, vI .i64 x2229), (24, vI .i64 x2230)] [] (by kernel_rfl) ?_
  obtain ⟨y2349, h2350, h0⟩ := bind_out h0
  refine TrAt.callD (caps := []) 25 (.tp [vS y2349.1, vI .i64 y2349.2.1, vI .i64 y2349.2.2]) [] [] (.func 17) #[.tmp 22, .tmp 23, .tmp 24] #[9, 3, 3] (ct_F17 k x2228 x2229 x2230 y2349 h2350) Try.func17 (by kernel_rfl) (by kernel_rfl) (by kernel_rfl) (by kernel_rfl) (by kernel_rfl) (by kernel_rfl) (by kernel_rfl) (by kernel_rfl) (by kernel_rfl) (by kernel_rfl) (by kernel_rfl) (by kernel_rfl) (by kernel_rfl) (by kernel_rfl) (by kernel_rfl) ?_
  refine TrAt.goS good 7 [(21, .tp [vS y2349.1, vI .i64 y2349.2.1, vI .i64 y2349.2.2]), (26, vS y2349.1), (27, vI .i64 y2349.2.1), (28, vI .i64 y2349.2.2), (10, vS y2349.1), (11, vI .i64 y2349.2.1), (12, vI .i64 y2349.2.2)] [] (by kernel_rfl) ?_
  refine TrAt.end_ (by kernel_rfl) ?_
  refine thenQ_n ?_
  refine Tr.seqI (fun st => ∃ y2356, F5_1 k y2356 = some r ∧ st = ⟨upd (deadT) 6 (vB y2356), emptyS, 45, []⟩) (by kernel_rfl) ?_ ?_
  · refine Tr.conv (Conv.normT (keep := [7, 8, 9, 10, 11, 12]) (ρ := []) ⟨upd (upd (upd (upd (upd (upd (deadT) 12 (vI .i64 y2349.2.2)) 11 (vI .i64 y2349.2.1)) 10 (vS y2349.1)) 9 (vI .i64 y2345.2.2)) 8 (vI .i64 y2345.2.1)) 7 (vS y2345.1), emptyS, 45, []⟩ (by kernel_rfl)) ?_
    refine Tr.regionN (by kernel_rfl) ?_
    obtain ⟨y2357, h2358, h0⟩ := bind_out h0
    refine TrAt.callD (caps := []) 29 (vB y2357) [] [] (.func 9) #[] #[] (ct_F9 k y2357 h2358) Try.func9 (by kernel_rfl) (by kernel_rfl) (by kernel_rfl) (by kernel_rfl) (by kernel_rfl) (by kernel_rfl) (by kernel_rfl) (by kernel_rfl) (by kernel_rfl) (by kernel_rfl) (by kernel_rfl) (by kernel_rfl) (by kernel_rfl) (by kernel_rfl) (by kernel_rfl) ?_
    refine TrAt.goS good 1 [(30, vB y2357)] [] (by kernel_rfl) ?_
    cases g2359 : (y2357 : Bool) with
    | true =>
      have h0 := cond_t g2359 h0
      refine TrAt.goS good 5 [(31, vS y2345.1), (32, vS y2349.1), (33, vB (y2345.1.toList == y2349.1.toList)), (34, vB (y2345.1.toList == y2349.1.toList)), (35, vB (y2345.1.toList == y2349.1.toList))] [] (by kernel_rfl) ?_
      cases g2360 : ((y2345.1.toList == y2349.1.toList) : Bool) with
      | true =>
        have h0 := cond_t g2360 h0
        refine TrAt.goS good 5 [(36, vI .i64 y2345.2.1), (37, vI .i64 y2349.2.1), (38, vB (y2345.2.1 == y2349.2.1)), (39, vB (y2345.2.1 == y2349.2.1)), (40, vB (y2345.2.1 == y2349.2.1))] [] (by kernel_rfl) ?_
        cases g2361 : ((y2345.2.1 == y2349.2.1) : Bool) with
        | true =>
          have h0 := cond_t g2361 h0
          refine TrAt.goS good 5 [(41, vI .i64 y2345.2.2), (42, vI .i64 y2349.2.2), (43, vB (y2345.2.2 == y2349.2.2)), (44, vB (y2345.2.2 == y2349.2.2)), (6, vB (y2345.2.2 == y2349.2.2))] [] (by kernel_rfl) ?_
          refine TrAt.conv (Conv.normT (keep := [6]) (ρ := []) ⟨upd (deadT) 6 (vB (y2345.2.2 == y2349.2.2)), emptyS, 45, []⟩ (by kernel_rfl)) ?_
          refine TrAt.end_ (by kernel_rfl) ?_
          refine thenI_n ?_
          exact ⟨(y2345.2.2 == y2349.2.2), h0, rfl⟩
        | false =>
          have h0 := cond_f g2361 h0
          refine TrAt.goS good 5 [(41, .tp []), (42, .tp []), (43, .tp []), (44, vB false), (6, vB false)] [] (by kernel_rfl) ?_
          refine TrAt.conv (Conv.normT (keep := [6]) (ρ := []) ⟨upd (deadT) 6 (vB false), emptyS, 45, []⟩ (by kernel_rfl)) ?_
          refine TrAt.end_ (by kernel_rfl) ?_
          refine thenI_n ?_
          exact ⟨false, h0, rfl⟩
      | false =>
        have h0 := cond_f g2360 h0
        refine TrAt.goS good 10 [(36, .tp []), (37, .tp []), (38, .tp []), (39, vB false), (40, vB false), (41, .tp []), (42, .tp []), (43, .tp []), (44, vB false), (6, vB false)] [] (by kernel_rfl) ?_
        refine TrAt.conv (Conv.normT (keep := [6]) (ρ := []) ⟨upd (deadT) 6 (vB false), emptyS, 45, []⟩ (by kernel_rfl)) ?_
        refine TrAt.end_ (by kernel_rfl) ?_
        refine thenI_n ?_
        exact ⟨false, h0, rfl⟩
    | false =>
      have h0 := cond_f g2359 h0
      refine TrAt.goS good 15 [(31, .tp []), (32, .tp []), (33, .tp []), (34, vB false), (35, vB false), (36, .tp []), (37, .tp []), (38, .tp []), (39, vB false), (40, vB false), (41, .tp []), (42, .tp []), (43, .tp []), (44, vB false), (6, vB false)] [] (by kernel_rfl) ?_
      refine TrAt.conv (Conv.normT (keep := [6]) (ρ := []) ⟨upd (deadT) 6 (vB false), emptyS, 45, []⟩ (by kernel_rfl)) ?_
      refine TrAt.end_ (by kernel_rfl) ?_
      refine thenI_n ?_
      exact ⟨false, h0, rfl⟩
  · rintro st ⟨y2356, h0, rfl⟩
    unfold F5_1 at h0
    refine Tr.conv (Conv.normT (keep := [6]) (ρ := []) ⟨upd (deadT) 6 (vB y2356), emptyS, 45, []⟩ (by kernel_rfl)) ?_
    refine Tr.retN (by kernel_rfl) ?_
    cases h0
    exact finQ_r (by kernel_rfl) (by kernel_rfl)
def F8_1 (k : Nat) (y2406 : Bool) : Option Bool :=
  some y2406
def F8_2 (k : Nat) (y2413 : Bool) : Option Bool :=
  some y2413
def F8 (k : Nat) (x2362 : ByteArray) (x2363 : Int) : Option Bool :=
  (F12 k x2362).bind fun y2393 =>
  (F16 k y2393 0 x2363).bind fun y2395 =>
  cond (decide ((mx x2363 0) < (x2362.size : Int))) ((F9 k).bind fun y2407 =>
  cond y2407 (F8_1 k (y2395.2.2 == 4)) (F8_1 k false)) ((F9 k).bind fun y2414 =>
  cond y2414 (F8_2 k (y2395.2.2 == 0)) (F8_2 k false))
theorem ct_F8 (k : Nat) (x2362 : ByteArray) (x2363 : Int) (r : Bool) (h0 : F8 k x2362 x2363 = some r) : CTd Try.prog 8 [vS x2362, vI .i64 x2363] [] (vB r) (emptyS) := by
  refine CTd.of_tr Try.f8 Try.func8 (by kernel_rfl) ?_
  unfold F8 at h0
  refine Tr.conv (Conv.normT (keep := [0, 1]) (ρ := []) ⟨upd (upd (deadT) 1 (vI .i64 x2363)) 0 (vS x2362), emptyS, 31, []⟩ (by kernel_rfl)) ?_
  refine Tr.seqN (by kernel_rfl) ?_
  refine Tr.regionN (by kernel_rfl) ?_
  refine TrAt.goS good 1 [(4, vB false)] [] (by kernel_rfl) ?_
  refine TrAt.end_ (by kernel_rfl) ?_
  refine thenQ_n ?_
  refine Tr.seqN (by kernel_rfl) ?_
  refine Tr.regionN (by kernel_rfl) ?_
  refine TrAt.goS good 1 [(9, vS x2362)] [] (by kernel_rfl) ?_
  obtain ⟨y2393, h2394, h0⟩ := bind_out h0
  refine TrAt.callD (caps := []) 10 (vS y2393) [] [] (.func 12) #[.tmp 9] #[9] (ct_F12 k x2362 y2393 h2394) Try.func12 (by kernel_rfl) (by kernel_rfl) (by kernel_rfl) (by kernel_rfl) (by kernel_rfl) (by kernel_rfl) (by kernel_rfl) (by kernel_rfl) (by kernel_rfl) (by kernel_rfl) (by kernel_rfl) (by kernel_rfl) (by kernel_rfl) (by kernel_rfl) (by kernel_rfl) ?_
  refine TrAt.goS good 1 [(11, vI .i64 x2363)] [] (by kernel_rfl) ?_
  obtain ⟨y2395, h2396, h0⟩ := bind_out h0
  refine TrAt.callD (caps := []) 12 (.tp [vS y2395.1, vI .i64 y2395.2.1, vI .i64 y2395.2.2]) [] [] (.func 16) #[.tmp 10, .const (.int .i64 0), .tmp 11] #[9, 3, 3] (ct_F16 k y2393 0 x2363 y2395 h2396) Try.func16 (by kernel_rfl) (by kernel_rfl) (by kernel_rfl) (by kernel_rfl) (by kernel_rfl) (by kernel_rfl) (by kernel_rfl) (by kernel_rfl) (by kernel_rfl) (by kernel_rfl) (by kernel_rfl) (by kernel_rfl) (by kernel_rfl) (by kernel_rfl) (by kernel_rfl) ?_
  refine TrAt.goS good 7 [(8, .tp [vS y2395.1, vI .i64 y2395.2.1, vI .i64 y2395.2.2]), (13, vS y2395.1), (14, vI .i64 y2395.2.1), (15, vI .i64 y2395.2.2), (5, vS y2395.1), (6, vI .i64 y2395.2.1), (7, vI .i64 y2395.2.2)] [] (by kernel_rfl) ?_
  refine TrAt.end_ (by kernel_rfl) ?_
  refine thenQ_n ?_
  refine Tr.seqN (by kernel_rfl) ?_
  refine Tr.seqN (by kernel_rfl) ?_
  refine Tr.regionN (by kernel_rfl) ?_
  refine TrAt.goS good 5 [(16, vS x2362), (17, vI .i64 (x2362.size : Int)), (18, vI .i64 x2363), (19, vI .i64 (mx x2363 0)), (20, vB (decide ((mx x2363 0) < (x2362.size : Int))))] [] (by kernel_rfl) ?_
  refine TrAt.end_ (by kernel_rfl) ?_
  refine thenQ_n ?_
  refine Tr.condN (decide ((mx x2363 0) < (x2362.size : Int))) (by kernel_rfl) (by kernel_rfl) ?_ ?_
  · intro g2405
    have h0 := cond_t g2405 h0
    refine Tr.seqI (fun st => ∃ y2406, F8_1 k y2406 = some r ∧ st = ⟨upd (deadT) 4 (vB y2406), emptyS, 31, []⟩) (by kernel_rfl) ?_ ?_
    · refine Tr.conv (Conv.normT (keep := [7]) (ρ := []) ⟨upd (deadT) 7 (vI .i64 y2395.2.2), emptyS, 31, []⟩ (by kernel_rfl)) ?_
      refine Tr.regionN (by kernel_rfl) ?_
      obtain ⟨y2407, h2408, h0⟩ := bind_out h0
      refine TrAt.callD (caps := []) 21 (vB y2407) [] [] (.func 9) #[] #[] (ct_F9 k y2407 h2408) Try.func9 (by kernel_rfl) (by kernel_rfl) (by kernel_rfl) (by kernel_rfl) (by kernel_rfl) (by kernel_rfl) (by kernel_rfl) (by kernel_rfl) (by kernel_rfl) (by kernel_rfl) (by kernel_rfl) (by kernel_rfl) (by kernel_rfl) (by kernel_rfl) (by kernel_rfl) ?_
      refine TrAt.goS good 1 [(22, vB y2407)] [] (by kernel_rfl) ?_
      cases g2409 : (y2407 : Bool) with
      | true =>
        have h0 := cond_t g2409 h0
        refine TrAt.goS good 4 [(23, vI .i64 y2395.2.2), (24, vB (y2395.2.2 == 4)), (25, vB (y2395.2.2 == 4)), (4, vB (y2395.2.2 == 4))] [] (by kernel_rfl) ?_
        refine TrAt.conv (Conv.normT (keep := [4]) (ρ := []) ⟨upd (deadT) 4 (vB (y2395.2.2 == 4)), emptyS, 31, []⟩ (by kernel_rfl)) ?_
        refine TrAt.end_ (by kernel_rfl) ?_
        refine thenI_n ?_
        exact ⟨(y2395.2.2 == 4), h0, rfl⟩
      | false =>
        have h0 := cond_f g2409 h0
        refine TrAt.goS good 4 [(23, .tp []), (24, .tp []), (25, vB false), (4, vB false)] [] (by kernel_rfl) ?_
        refine TrAt.conv (Conv.normT (keep := [4]) (ρ := []) ⟨upd (deadT) 4 (vB false), emptyS, 31, []⟩ (by kernel_rfl)) ?_
        refine TrAt.end_ (by kernel_rfl) ?_
        refine thenI_n ?_
        exact ⟨false, h0, rfl⟩
    · rintro st ⟨y2406, h0, rfl⟩
      unfold F8_1 at h0
      refine Tr.conv (Conv.normT (keep := [4]) (ρ := []) ⟨upd (deadT) 4 (vB y2406), emptyS, 31, []⟩ (by kernel_rfl)) ?_
      refine Tr.retN (by kernel_rfl) ?_
      refine thenQ_r ?_
      cases h0
      exact finQ_r (by kernel_rfl) (by kernel_rfl)
  · intro g2405
    have h0 := cond_f g2405 h0
    refine Tr.skipN (by kernel_rfl) ?_
    refine thenQ_n ?_
    refine Tr.seqI (fun st => ∃ y2413, F8_2 k y2413 = some r ∧ st = ⟨upd (deadT) 4 (vB y2413), emptyS, 31, []⟩) (by kernel_rfl) ?_ ?_
    · refine Tr.conv (Conv.normT (keep := [7]) (ρ := []) ⟨upd (deadT) 7 (vI .i64 y2395.2.2), emptyS, 31, []⟩ (by kernel_rfl)) ?_
      refine Tr.regionN (by kernel_rfl) ?_
      obtain ⟨y2414, h2415, h0⟩ := bind_out h0
      refine TrAt.callD (caps := []) 26 (vB y2414) [] [] (.func 9) #[] #[] (ct_F9 k y2414 h2415) Try.func9 (by kernel_rfl) (by kernel_rfl) (by kernel_rfl) (by kernel_rfl) (by kernel_rfl) (by kernel_rfl) (by kernel_rfl) (by kernel_rfl) (by kernel_rfl) (by kernel_rfl) (by kernel_rfl) (by kernel_rfl) (by kernel_rfl) (by kernel_rfl) (by kernel_rfl) ?_
      refine TrAt.goS good 1 [(27, vB y2414)] [] (by kernel_rfl) ?_
      cases g2416 : (y2414 : Bool) with
      | true =>
        have h0 := cond_t g2416 h0
        refine TrAt.goS good 4 [(28, vI .i64 y2395.2.2), (29, vB (y2395.2.2 == 0)), (30, vB (y2395.2.2 == 0)), (4, vB (y2395.2.2 == 0))] [] (by kernel_rfl) ?_
        refine TrAt.conv (Conv.normT (keep := [4]) (ρ := []) ⟨upd (deadT) 4 (vB (y2395.2.2 == 0)), emptyS, 31, []⟩ (by kernel_rfl)) ?_
        refine TrAt.end_ (by kernel_rfl) ?_
        refine thenI_n ?_
        exact ⟨(y2395.2.2 == 0), h0, rfl⟩
      | false =>
        have h0 := cond_f g2416 h0
        refine TrAt.goS good 4 [(28, .tp []), (29, .tp []), (30, vB false), (4, vB false)] [] (by kernel_rfl) ?_
        refine TrAt.conv (Conv.normT (keep := [4]) (ρ := []) ⟨upd (deadT) 4 (vB false), emptyS, 31, []⟩ (by kernel_rfl)) ?_
        refine TrAt.end_ (by kernel_rfl) ?_
        refine thenI_n ?_
        exact ⟨false, h0, rfl⟩
    · rintro st ⟨y2413, h0, rfl⟩
      unfold F8_2 at h0
      refine Tr.conv (Conv.normT (keep := [4]) (ρ := []) ⟨upd (deadT) 4 (vB y2413), emptyS, 31, []⟩ (by kernel_rfl)) ?_
      refine Tr.retN (by kernel_rfl) ?_
      cases h0
      exact finQ_r (by kernel_rfl) (by kernel_rfl)
def F6_3 (k : Nat) (y2557 : Bool) : Option Bool :=
  some y2557
def F6_2 (k : Nat) (x2418 : ByteArray) (x2419 : ByteArray) (y2499 : ByteArray) (y2502 : ByteArray) (y2509 : (Int × Int × Int)) (y2543 : Int) : Option Bool :=
  grd (bnds (((x2419 ++ y2499) ++ y2502).size : Int) 0 (IntKind.wrap .i64 ((x2419.size : Int) + y2543))) <|
  (F14 k (((x2419 ++ y2499) ++ y2502).extract (0 : Int).toNat ((IntKind.wrap .i64 ((x2419.size : Int) + y2543))).toNat) (x2419.size : Int)).bind fun y2548 =>
  grd (bnds (((x2419 ++ y2499) ++ y2502).size : Int) 0 (IntKind.wrap .i64 ((((x2419 ++ y2499) ++ y2502).size : Int) - 1))) <|
  (F16 k (((x2419 ++ y2499) ++ y2502).extract (0 : Int).toNat ((IntKind.wrap .i64 ((((x2419 ++ y2499) ++ y2502).size : Int) - 1))).toNat) y2509.2.1 (x2418.size : Int)).bind fun y2554 =>
  cond (y2548.2.2 == 3) (F6_3 k (y2554.2.2 == 3)) (F6_3 k false)
def F6_4 (k : Nat) (x2418 : ByteArray) (x2419 : ByteArray) (x2421 : Int) (y2499 : ByteArray) (y2502 : ByteArray) (y2509 : (Int × Int × Int)) (y2559 : Bool) : Option Bool :=
  cond y2559 (F6_2 k x2418 x2419 y2499 y2502 y2509 0) (F6_2 k x2418 x2419 y2499 y2502 y2509 x2421)
def F6_1 (k : Nat) (x2417 : Int) (x2418 : ByteArray) (x2419 : ByteArray) (x2421 : Int) (y2499 : ByteArray) (y2502 : ByteArray) (y2509 : (Int × Int × Int)) (y2533 : Bool) : Option Bool :=
  cond y2533 (some false) ((F10 k x2417).bind fun y2537 =>
  cond (decide (x2421 < 0)) (F6_4 k x2418 x2419 x2421 y2499 y2502 y2509 true) (F6_4 k x2418 x2419 x2421 y2499 y2502 y2509 (decide ((y2537.size : Int) ≤ x2421))))
def F6 (k : Nat) (x2417 : Int) (x2418 : ByteArray) (x2419 : ByteArray) (x2420 : ByteArray) (x2421 : Int) : Option Bool :=
  (F10 k x2417).bind fun y2499 =>
  grd (decide (x2419.size + y2499.size ≤ 9223372036854775807)) <|
  (F12 k x2418).bind fun y2502 =>
  grd (decide ((x2419 ++ y2499).size + y2502.size ≤ 9223372036854775807)) <|
  grd (decide (((x2419 ++ y2499) ++ y2502).size + x2420.size ≤ 9223372036854775807)) <|
  (F14 k (((x2419 ++ y2499) ++ y2502) ++ x2420) (x2419.size : Int)).bind fun y2509 =>
  grd (decide (((x2419 ++ y2499) ++ y2502).size + x2420.size ≤ 9223372036854775807)) <|
  (F16 k (((x2419 ++ y2499) ++ y2502) ++ x2420) y2509.2.1 (x2418.size : Int)).bind fun y2515 =>
  (F9 k).bind fun y2562 =>
  cond (!y2562) (F6_1 k x2417 x2418 x2419 x2421 y2499 y2502 y2509 true) (cond (y2509.2.2 != 0) (F6_1 k x2417 x2418 x2419 x2421 y2499 y2502 y2509 true) (cond (y2509.1 != x2417) (F6_1 k x2417 x2418 x2419 x2421 y2499 y2502 y2509 true) (cond (y2515.2.2 != 0) (F6_1 k x2417 x2418 x2419 x2421 y2499 y2502 y2509 true) (cond (!(y2515.1.toList == x2418.toList)) (F6_1 k x2417 x2418 x2419 x2421 y2499 y2502 y2509 true) (F6_1 k x2417 x2418 x2419 x2421 y2499 y2502 y2509 (y2515.2.1 != (((x2419 ++ y2499) ++ y2502).size : Int)))))))
theorem ct_F6 (k : Nat) (x2417 : Int) (x2418 : ByteArray) (x2419 : ByteArray) (x2420 : ByteArray) (x2421 : Int) (r : Bool) (h0 : F6 k x2417 x2418 x2419 x2420 x2421 = some r) : CTd Try.prog 6 [vI .u32 x2417, vS x2418, vS x2419, vS x2420, vI .i64 x2421] [] (vB r) (emptyS) := by
  refine CTd.of_tr Try.f6 Try.func6 (by kernel_rfl) ?_
  unfold F6 at h0
  refine Tr.conv (Conv.normT (keep := [0, 1, 2, 3, 4]) (ρ := []) ⟨upd (upd (upd (upd (upd (deadT) 4 (vI .i64 x2421)) 3 (vS x2420)) 2 (vS x2419)) 1 (vS x2418)) 0 (vI .u32 x2417), emptyS, 121, []⟩ (by kernel_rfl)) ?_
  refine Tr.seqN (by kernel_rfl) ?_
  refine Tr.regionN (by kernel_rfl) ?_
  refine TrAt.goS good 1 [(10, vB false)] [] (by kernel_rfl) ?_
  refine TrAt.end_ (by kernel_rfl) ?_
  refine thenQ_n ?_
  refine Tr.seqN (by kernel_rfl) ?_
  refine Tr.regionN (by kernel_rfl) ?_
  refine TrAt.goS good 2 [(25, vS x2419), (26, vI .u32 x2417)] [] (by kernel_rfl) ?_
  obtain ⟨y2499, h2500, h0⟩ := bind_out h0
  refine TrAt.callD (caps := []) 27 (vS y2499) [] [] (.func 10) #[.tmp 26] #[22] (ct_F10 k x2417 y2499 h2500) Try.func10 (by kernel_rfl) (by kernel_rfl) (by kernel_rfl) (by kernel_rfl) (by kernel_rfl) (by kernel_rfl) (by kernel_rfl) (by kernel_rfl) (by kernel_rfl) (by kernel_rfl) (by kernel_rfl) (by kernel_rfl) (by kernel_rfl) (by kernel_rfl) (by kernel_rfl) ?_
  obtain ⟨g2501, h0⟩ := grd_out h0
  refine TrAt.lawP 28 _ _ (by kernel_rfl) (by kernel_rfl) (by kernel_rfl) (by kernel_rfl) (catStr_ok good (t := 9) (x := .tmp 25) (y := .tmp 27) (q := 9) (a := x2419) (b := y2499) (by kernel_rfl) (by kernel_rfl) (by kernel_rfl) g2501) ?_
  refine TrAt.goS good 1 [(29, vS x2418)] [] (by kernel_rfl) ?_
  obtain ⟨y2502, h2503, h0⟩ := bind_out h0
  refine TrAt.callD (caps := []) 30 (vS y2502) [] [] (.func 12) #[.tmp 29] #[9] (ct_F12 k x2418 y2502 h2503) Try.func12 (by kernel_rfl) (by kernel_rfl) (by kernel_rfl) (by kernel_rfl) (by kernel_rfl) (by kernel_rfl) (by kernel_rfl) (by kernel_rfl) (by kernel_rfl) (by kernel_rfl) (by kernel_rfl) (by kernel_rfl) (by kernel_rfl) (by kernel_rfl) (by kernel_rfl) ?_
  obtain ⟨g2504, h0⟩ := grd_out h0
  refine TrAt.lawP 31 _ _ (by kernel_rfl) (by kernel_rfl) (by kernel_rfl) (by kernel_rfl) (catStr_ok good (t := 9) (x := .tmp 28) (y := .tmp 30) (q := 9) (a := (x2419 ++ y2499)) (b := y2502) (by kernel_rfl) (by kernel_rfl) (by kernel_rfl) g2504) ?_
  refine TrAt.goS good 1 [(11, vS ((x2419 ++ y2499) ++ y2502))] [] (by kernel_rfl) ?_
  refine TrAt.end_ (by kernel_rfl) ?_
  refine thenQ_n ?_
  refine Tr.seqN (by kernel_rfl) ?_
  refine Tr.regionN (by kernel_rfl) ?_
  refine TrAt.goS good 2 [(33, vS ((x2419 ++ y2499) ++ y2502)), (34, vS x2420)] [] (by kernel_rfl) ?_
  obtain ⟨g2508, h0⟩ := grd_out h0
  refine TrAt.lawP 35 _ _ (by kernel_rfl) (by kernel_rfl) (by kernel_rfl) (by kernel_rfl) (catStr_ok good (t := 9) (x := .tmp 33) (y := .tmp 34) (q := 9) (a := ((x2419 ++ y2499) ++ y2502)) (b := x2420) (by kernel_rfl) (by kernel_rfl) (by kernel_rfl) g2508) ?_
  refine TrAt.goS good 2 [(36, vS x2419), (37, vI .i64 (x2419.size : Int))] [] (by kernel_rfl) ?_
  obtain ⟨y2509, h2510, h0⟩ := bind_out h0
  refine TrAt.callD (caps := []) 38 (.tp [vI .u32 y2509.1, vI .i64 y2509.2.1, vI .i64 y2509.2.2]) [] [] (.func 14) #[.tmp 35, .tmp 37] #[9, 3] (ct_F14 k (((x2419 ++ y2499) ++ y2502) ++ x2420) (x2419.size : Int) y2509 h2510) Try.func14 (by kernel_rfl) (by kernel_rfl) (by kernel_rfl) (by kernel_rfl) (by kernel_rfl) (by kernel_rfl) (by kernel_rfl) (by kernel_rfl) (by kernel_rfl) (by kernel_rfl) (by kernel_rfl) (by kernel_rfl) (by kernel_rfl) (by kernel_rfl) (by kernel_rfl) ?_
  refine TrAt.goS good 7 [(32, .tp [vI .u32 y2509.1, vI .i64 y2509.2.1, vI .i64 y2509.2.2]), (39, vI .u32 y2509.1), (40, vI .i64 y2509.2.1), (41, vI .i64 y2509.2.2), (12, vI .u32 y2509.1), (13, vI .i64 y2509.2.1), (14, vI .i64 y2509.2.2)] [] (by kernel_rfl) ?_
  refine TrAt.end_ (by kernel_rfl) ?_
  refine thenQ_n ?_
  refine Tr.seqN (by kernel_rfl) ?_
  refine Tr.conv (Conv.normT (keep := [0, 1, 2, 3, 4, 11, 12, 13, 14]) (ρ := []) ⟨upd (upd (upd (upd (upd (upd (upd (upd (upd (deadT) 14 (vI .i64 y2509.2.2)) 13 (vI .i64 y2509.2.1)) 12 (vI .u32 y2509.1)) 11 (vS ((x2419 ++ y2499) ++ y2502))) 4 (vI .i64 x2421)) 3 (vS x2420)) 2 (vS x2419)) 1 (vS x2418)) 0 (vI .u32 x2417), emptyS, 121, []⟩ (by kernel_rfl)) ?_
  refine Tr.regionN (by kernel_rfl) ?_
  refine TrAt.goS good 2 [(43, vS ((x2419 ++ y2499) ++ y2502)), (44, vS x2420)] [] (by kernel_rfl) ?_
  obtain ⟨g2514, h0⟩ := grd_out h0
  refine TrAt.lawP 45 _ _ (by kernel_rfl) (by kernel_rfl) (by kernel_rfl) (by kernel_rfl) (catStr_ok good (t := 9) (x := .tmp 43) (y := .tmp 44) (q := 9) (a := ((x2419 ++ y2499) ++ y2502)) (b := x2420) (by kernel_rfl) (by kernel_rfl) (by kernel_rfl) g2514) ?_
  refine TrAt.goS good 3 [(46, vI .i64 y2509.2.1), (47, vS x2418), (48, vI .i64 (x2418.size : Int))] [] (by kernel_rfl) ?_
  obtain ⟨y2515, h2516, h0⟩ := bind_out h0
  refine TrAt.callD (caps := []) 49 (.tp [vS y2515.1, vI .i64 y2515.2.1, vI .i64 y2515.2.2]) [] [] (.func 16) #[.tmp 45, .tmp 46, .tmp 48] #[9, 3, 3] (ct_F16 k (((x2419 ++ y2499) ++ y2502) ++ x2420) y2509.2.1 (x2418.size : Int) y2515 h2516) Try.func16 (by kernel_rfl) (by kernel_rfl) (by kernel_rfl) (by kernel_rfl) (by kernel_rfl) (by kernel_rfl) (by kernel_rfl) (by kernel_rfl) (by kernel_rfl) (by kernel_rfl) (by kernel_rfl) (by kernel_rfl) (by kernel_rfl) (by kernel_rfl) (by kernel_rfl) ?_
  refine TrAt.goS good 7 [(42, .tp [vS y2515.1, vI .i64 y2515.2.1, vI .i64 y2515.2.2]), (50, vS y2515.1), (51, vI .i64 y2515.2.1), (52, vI .i64 y2515.2.2), (15, vS y2515.1), (16, vI .i64 y2515.2.1), (17, vI .i64 y2515.2.2)] [] (by kernel_rfl) ?_
  refine TrAt.end_ (by kernel_rfl) ?_
  refine thenQ_n ?_
  refine Tr.seqN (by kernel_rfl) ?_
  refine Tr.seqI (fun st => ∃ y2533, F6_1 k x2417 x2418 x2419 x2421 y2499 y2502 y2509 y2533 = some r ∧ st = ⟨upd (upd (upd (upd (upd (upd (upd (deadT) 78 (vB y2533)) 13 (vI .i64 y2509.2.1)) 11 (vS ((x2419 ++ y2499) ++ y2502))) 4 (vI .i64 x2421)) 2 (vS x2419)) 1 (vS x2418)) 0 (vI .u32 x2417), emptyS, 121, []⟩) (by kernel_rfl) ?_ ?_
  · refine Tr.regionN (by kernel_rfl) ?_
    obtain ⟨y2562, h2563, h0⟩ := bind_out h0
    refine TrAt.callD (caps := []) 53 (vB y2562) [] [] (.func 9) #[] #[] (ct_F9 k y2562 h2563) Try.func9 (by kernel_rfl) (by kernel_rfl) (by kernel_rfl) (by kernel_rfl) (by kernel_rfl) (by kernel_rfl) (by kernel_rfl) (by kernel_rfl) (by kernel_rfl) (by kernel_rfl) (by kernel_rfl) (by kernel_rfl) (by kernel_rfl) (by kernel_rfl) (by kernel_rfl) ?_
    refine TrAt.goS good 2 [(54, vB (!y2562)), (55, vB (!y2562))] [] (by kernel_rfl) ?_
    cases g2564 : ((!y2562) : Bool) with
    | true =>
      have h0 := cond_t g2564 h0
      refine TrAt.goS good 23 [(56, .tp []), (57, .tp []), (58, vB true), (59, vB true), (60, .tp []), (61, .tp []), (62, .tp []), (63, vB true), (64, vB true), (65, .tp []), (66, .tp []), (67, vB true), (68, vB true), (69, .tp []), (70, .tp []), (71, .tp []), (72, vB true), (73, vB true), (74, .tp []), (75, .tp []), (76, .tp []), (77, .tp []), (78, vB true)] [] (by kernel_rfl) ?_
      refine TrAt.conv (Conv.normT (keep := [0, 1, 2, 4, 11, 13, 78]) (ρ := []) ⟨upd (upd (upd (upd (upd (upd (upd (deadT) 78 (vB true)) 13 (vI .i64 y2509.2.1)) 11 (vS ((x2419 ++ y2499) ++ y2502))) 4 (vI .i64 x2421)) 2 (vS x2419)) 1 (vS x2418)) 0 (vI .u32 x2417), emptyS, 121, []⟩ (by kernel_rfl)) ?_
      refine TrAt.end_ (by kernel_rfl) ?_
      refine thenI_n ?_
      exact ⟨true, h0, rfl⟩
    | false =>
      have h0 := cond_f g2564 h0
      refine TrAt.goS good 4 [(56, vI .i64 y2509.2.2), (57, vB (y2509.2.2 != 0)), (58, vB (y2509.2.2 != 0)), (59, vB (y2509.2.2 != 0))] [] (by kernel_rfl) ?_
      cases g2565 : ((y2509.2.2 != 0) : Bool) with
      | true =>
        have h0 := cond_t g2565 h0
        refine TrAt.goS good 19 [(60, .tp []), (61, .tp []), (62, .tp []), (63, vB true), (64, vB true), (65, .tp []), (66, .tp []), (67, vB true), (68, vB true), (69, .tp []), (70, .tp []), (71, .tp []), (72, vB true), (73, vB true), (74, .tp []), (75, .tp []), (76, .tp []), (77, .tp []), (78, vB true)] [] (by kernel_rfl) ?_
        refine TrAt.conv (Conv.normT (keep := [0, 1, 2, 4, 11, 13, 78]) (ρ := []) ⟨upd (upd (upd (upd (upd (upd (upd (deadT) 78 (vB true)) 13 (vI .i64 y2509.2.1)) 11 (vS ((x2419 ++ y2499) ++ y2502))) 4 (vI .i64 x2421)) 2 (vS x2419)) 1 (vS x2418)) 0 (vI .u32 x2417), emptyS, 121, []⟩ (by kernel_rfl)) ?_
        refine TrAt.end_ (by kernel_rfl) ?_
        refine thenI_n ?_
        exact ⟨true, h0, rfl⟩
      | false =>
        have h0 := cond_f g2565 h0
        refine TrAt.goS good 5 [(60, vI .u32 y2509.1), (61, vI .u32 x2417), (62, vB (y2509.1 != x2417)), (63, vB (y2509.1 != x2417)), (64, vB (y2509.1 != x2417))] [] (by kernel_rfl) ?_
        cases g2566 : ((y2509.1 != x2417) : Bool) with
        | true =>
          have h0 := cond_t g2566 h0
          refine TrAt.goS good 14 [(65, .tp []), (66, .tp []), (67, vB true), (68, vB true), (69, .tp []), (70, .tp []), (71, .tp []), (72, vB true), (73, vB true), (74, .tp []), (75, .tp []), (76, .tp []), (77, .tp []), (78, vB true)] [] (by kernel_rfl) ?_
          refine TrAt.conv (Conv.normT (keep := [0, 1, 2, 4, 11, 13, 78]) (ρ := []) ⟨upd (upd (upd (upd (upd (upd (upd (deadT) 78 (vB true)) 13 (vI .i64 y2509.2.1)) 11 (vS ((x2419 ++ y2499) ++ y2502))) 4 (vI .i64 x2421)) 2 (vS x2419)) 1 (vS x2418)) 0 (vI .u32 x2417), emptyS, 121, []⟩ (by kernel_rfl)) ?_
          refine TrAt.end_ (by kernel_rfl) ?_
          refine thenI_n ?_
          exact ⟨true, h0, rfl⟩
        | false =>
          have h0 := cond_f g2566 h0
          refine TrAt.goS good 4 [(65, vI .i64 y2515.2.2), (66, vB (y2515.2.2 != 0)), (67, vB (y2515.2.2 != 0)), (68, vB (y2515.2.2 != 0))] [] (by kernel_rfl) ?_
          cases g2567 : ((y2515.2.2 != 0) : Bool) with
          | true =>
            have h0 := cond_t g2567 h0
            refine TrAt.goS good 10 [(69, .tp []), (70, .tp []), (71, .tp []), (72, vB true), (73, vB true), (74, .tp []), (75, .tp []), (76, .tp []), (77, .tp []), (78, vB true)] [] (by kernel_rfl) ?_
            refine TrAt.conv (Conv.normT (keep := [0, 1, 2, 4, 11, 13, 78]) (ρ := []) ⟨upd (upd (upd (upd (upd (upd (upd (deadT) 78 (vB true)) 13 (vI .i64 y2509.2.1)) 11 (vS ((x2419 ++ y2499) ++ y2502))) 4 (vI .i64 x2421)) 2 (vS x2419)) 1 (vS x2418)) 0 (vI .u32 x2417), emptyS, 121, []⟩ (by kernel_rfl)) ?_
            refine TrAt.end_ (by kernel_rfl) ?_
            refine thenI_n ?_
            exact ⟨true, h0, rfl⟩
          | false =>
            have h0 := cond_f g2567 h0
            refine TrAt.goS good 5 [(69, vS y2515.1), (70, vS x2418), (71, vB (!(y2515.1.toList == x2418.toList))), (72, vB (!(y2515.1.toList == x2418.toList))), (73, vB (!(y2515.1.toList == x2418.toList)))] [] (by kernel_rfl) ?_
            cases g2568 : ((!(y2515.1.toList == x2418.toList)) : Bool) with
            | true =>
              have h0 := cond_t g2568 h0
              refine TrAt.goS good 5 [(74, .tp []), (75, .tp []), (76, .tp []), (77, .tp []), (78, vB true)] [] (by kernel_rfl) ?_
              refine TrAt.conv (Conv.normT (keep := [0, 1, 2, 4, 11, 13, 78]) (ρ := []) ⟨upd (upd (upd (upd (upd (upd (upd (deadT) 78 (vB true)) 13 (vI .i64 y2509.2.1)) 11 (vS ((x2419 ++ y2499) ++ y2502))) 4 (vI .i64 x2421)) 2 (vS x2419)) 1 (vS x2418)) 0 (vI .u32 x2417), emptyS, 121, []⟩ (by kernel_rfl)) ?_
              refine TrAt.end_ (by kernel_rfl) ?_
              refine thenI_n ?_
              exact ⟨true, h0, rfl⟩
            | false =>
              have h0 := cond_f g2568 h0
              refine TrAt.goS good 5 [(74, vI .i64 y2515.2.1), (75, vS ((x2419 ++ y2499) ++ y2502)), (76, vI .i64 (((x2419 ++ y2499) ++ y2502).size : Int)), (77, vB (y2515.2.1 != (((x2419 ++ y2499) ++ y2502).size : Int))), (78, vB (y2515.2.1 != (((x2419 ++ y2499) ++ y2502).size : Int)))] [] (by kernel_rfl) ?_
              refine TrAt.conv (Conv.normT (keep := [0, 1, 2, 4, 11, 13, 78]) (ρ := []) ⟨upd (upd (upd (upd (upd (upd (upd (deadT) 78 (vB (y2515.2.1 != (((x2419 ++ y2499) ++ y2502).size : Int)))) 13 (vI .i64 y2509.2.1)) 11 (vS ((x2419 ++ y2499) ++ y2502))) 4 (vI .i64 x2421)) 2 (vS x2419)) 1 (vS x2418)) 0 (vI .u32 x2417), emptyS, 121, []⟩ (by kernel_rfl)) ?_
              refine TrAt.end_ (by kernel_rfl) ?_
              refine thenI_n ?_
              exact ⟨(y2515.2.1 != (((x2419 ++ y2499) ++ y2502).size : Int)), h0, rfl⟩
  · rintro st ⟨y2533, h0, rfl⟩
    unfold F6_1 at h0
    refine Tr.condN y2533 (by kernel_rfl) (by kernel_rfl) ?_ ?_
    · intro g2534
      have h0 := cond_t g2534 h0
      refine Tr.seqN (by kernel_rfl) ?_
      refine Tr.regionN (by kernel_rfl) ?_
      refine TrAt.goS good 1 [(10, vB false)] [] (by kernel_rfl) ?_
      refine TrAt.end_ (by kernel_rfl) ?_
      refine thenQ_n ?_
      refine Tr.conv (Conv.normT (keep := [10]) (ρ := []) ⟨upd (deadT) 10 (vB false), emptyS, 121, []⟩ (by kernel_rfl)) ?_
      refine Tr.retN (by kernel_rfl) ?_
      refine thenQ_r ?_
      cases h0
      exact finQ_r (by kernel_rfl) (by kernel_rfl)
    · intro g2534
      have h0 := cond_f g2534 h0
      refine Tr.skipN (by kernel_rfl) ?_
      refine thenQ_n ?_
      refine Tr.seqN (by kernel_rfl) ?_
      refine Tr.regionN (by kernel_rfl) ?_
      refine TrAt.goS good 1 [(79, vI .u32 x2417)] [] (by kernel_rfl) ?_
      obtain ⟨y2537, h2538, h0⟩ := bind_out h0
      refine TrAt.callD (caps := []) 80 (vS y2537) [] [] (.func 10) #[.tmp 79] #[22] (ct_F10 k x2417 y2537 h2538) Try.func10 (by kernel_rfl) (by kernel_rfl) (by kernel_rfl) (by kernel_rfl) (by kernel_rfl) (by kernel_rfl) (by kernel_rfl) (by kernel_rfl) (by kernel_rfl) (by kernel_rfl) (by kernel_rfl) (by kernel_rfl) (by kernel_rfl) (by kernel_rfl) (by kernel_rfl) ?_
      refine TrAt.goS good 2 [(81, vI .i64 (y2537.size : Int)), (18, vI .i64 (y2537.size : Int))] [] (by kernel_rfl) ?_
      refine TrAt.end_ (by kernel_rfl) ?_
      refine thenQ_n ?_
      refine Tr.seqI (fun st => ∃ y2543, F6_2 k x2418 x2419 y2499 y2502 y2509 y2543 = some r ∧ st = ⟨upd (upd (upd (upd (upd (deadT) 13 (vI .i64 y2509.2.1)) 11 (vS ((x2419 ++ y2499) ++ y2502))) 4 (vI .i64 y2543)) 2 (vS x2419)) 1 (vS x2418), emptyS, 121, []⟩) (by kernel_rfl) ?_ ?_
      · refine Tr.seqI (fun st => ∃ y2559, F6_4 k x2418 x2419 x2421 y2499 y2502 y2509 y2559 = some r ∧ st = ⟨upd (upd (upd (upd (upd (upd (deadT) 88 (vB y2559)) 13 (vI .i64 y2509.2.1)) 11 (vS ((x2419 ++ y2499) ++ y2502))) 4 (vI .i64 x2421)) 2 (vS x2419)) 1 (vS x2418), emptyS, 121, []⟩) (by kernel_rfl) ?_ ?_
        · refine Tr.regionN (by kernel_rfl) ?_
          refine TrAt.goS good 3 [(82, vI .i64 x2421), (83, vB (decide (x2421 < 0))), (84, vB (decide (x2421 < 0)))] [] (by kernel_rfl) ?_
          cases g2561 : ((decide (x2421 < 0)) : Bool) with
          | true =>
            have h0 := cond_t g2561 h0
            refine TrAt.goS good 4 [(85, .tp []), (86, .tp []), (87, .tp []), (88, vB true)] [] (by kernel_rfl) ?_
            refine TrAt.conv (Conv.normT (keep := [1, 2, 4, 11, 13, 88]) (ρ := []) ⟨upd (upd (upd (upd (upd (upd (deadT) 88 (vB true)) 13 (vI .i64 y2509.2.1)) 11 (vS ((x2419 ++ y2499) ++ y2502))) 4 (vI .i64 x2421)) 2 (vS x2419)) 1 (vS x2418), emptyS, 121, []⟩ (by kernel_rfl)) ?_
            refine TrAt.end_ (by kernel_rfl) ?_
            refine thenI_n ?_
            exact ⟨true, h0, rfl⟩
          | false =>
            have h0 := cond_f g2561 h0
            refine TrAt.goS good 4 [(85, vI .i64 x2421), (86, vI .i64 (y2537.size : Int)), (87, vB (decide ((y2537.size : Int) ≤ x2421))), (88, vB (decide ((y2537.size : Int) ≤ x2421)))] [] (by kernel_rfl) ?_
            refine TrAt.conv (Conv.normT (keep := [1, 2, 4, 11, 13, 88]) (ρ := []) ⟨upd (upd (upd (upd (upd (upd (deadT) 88 (vB (decide ((y2537.size : Int) ≤ x2421)))) 13 (vI .i64 y2509.2.1)) 11 (vS ((x2419 ++ y2499) ++ y2502))) 4 (vI .i64 x2421)) 2 (vS x2419)) 1 (vS x2418), emptyS, 121, []⟩ (by kernel_rfl)) ?_
            refine TrAt.end_ (by kernel_rfl) ?_
            refine thenI_n ?_
            exact ⟨(decide ((y2537.size : Int) ≤ x2421)), h0, rfl⟩
        · rintro st ⟨y2559, h0, rfl⟩
          unfold F6_4 at h0
          refine Tr.condN y2559 (by kernel_rfl) (by kernel_rfl) ?_ ?_
          · intro g2560
            have h0 := cond_t g2560 h0
            refine Tr.regionN (by kernel_rfl) ?_
            refine TrAt.goS good 1 [(4, vI .i64 0)] [] (by kernel_rfl) ?_
            refine TrAt.conv (Conv.normT (keep := [1, 2, 4, 11, 13]) (ρ := []) ⟨upd (upd (upd (upd (upd (deadT) 13 (vI .i64 y2509.2.1)) 11 (vS ((x2419 ++ y2499) ++ y2502))) 4 (vI .i64 0)) 2 (vS x2419)) 1 (vS x2418), emptyS, 121, []⟩ (by kernel_rfl)) ?_
            refine TrAt.end_ (by kernel_rfl) ?_
            refine thenI_n ?_
            exact ⟨0, h0, rfl⟩
          · intro g2560
            have h0 := cond_f g2560 h0
            refine Tr.conv (Conv.normT (keep := [1, 2, 4, 11, 13]) (ρ := []) ⟨upd (upd (upd (upd (upd (deadT) 13 (vI .i64 y2509.2.1)) 11 (vS ((x2419 ++ y2499) ++ y2502))) 4 (vI .i64 x2421)) 2 (vS x2419)) 1 (vS x2418), emptyS, 121, []⟩ (by kernel_rfl)) ?_
            refine Tr.skipN (by kernel_rfl) ?_
            refine thenI_n ?_
            exact ⟨x2421, h0, rfl⟩
      · rintro st ⟨y2543, h0, rfl⟩
        unfold F6_2 at h0
        refine Tr.seqN (by kernel_rfl) ?_
        refine Tr.regionN (by kernel_rfl) ?_
        refine TrAt.goS good 5 [(90, vS ((x2419 ++ y2499) ++ y2502)), (91, vS x2419), (92, vI .i64 (x2419.size : Int)), (93, vI .i64 y2543), (94, vI .i64 (IntKind.wrap .i64 ((x2419.size : Int) + y2543)))] [] (by kernel_rfl) ?_
        obtain ⟨g2547, h0⟩ := grd_out h0
        refine TrAt.lawP 95 _ _ (by kernel_rfl) (by kernel_rfl) (by kernel_rfl) (by kernel_rfl) (cutStr_ok good (t := 9) (x := .tmp 90) (lo := none) (hi := (some (.tmp 94))) (b := ((x2419 ++ y2499) ++ y2502)) (l := 0) (h := (IntKind.wrap .i64 ((x2419.size : Int) + y2543))) (by kernel_rfl) (by kernel_rfl) (by kernel_rfl) (by kernel_rfl) (by kernel_rfl) g2547) ?_
        refine TrAt.goS good 2 [(96, vS x2419), (97, vI .i64 (x2419.size : Int))] [] (by kernel_rfl) ?_
        obtain ⟨y2548, h2549, h0⟩ := bind_out h0
        refine TrAt.callD (caps := []) 98 (.tp [vI .u32 y2548.1, vI .i64 y2548.2.1, vI .i64 y2548.2.2]) [] [] (.func 14) #[.tmp 95, .tmp 97] #[9, 3] (ct_F14 k (((x2419 ++ y2499) ++ y2502).extract (0 : Int).toNat ((IntKind.wrap .i64 ((x2419.size : Int) + y2543))).toNat) (x2419.size : Int) y2548 h2549) Try.func14 (by kernel_rfl) (by kernel_rfl) (by kernel_rfl) (by kernel_rfl) (by kernel_rfl) (by kernel_rfl) (by kernel_rfl) (by kernel_rfl) (by kernel_rfl) (by kernel_rfl) (by kernel_rfl) (by kernel_rfl) (by kernel_rfl) (by kernel_rfl) (by kernel_rfl) ?_
        refine TrAt.goS good 7 [(89, .tp [vI .u32 y2548.1, vI .i64 y2548.2.1, vI .i64 y2548.2.2]), (99, vI .u32 y2548.1), (100, vI .i64 y2548.2.1), (101, vI .i64 y2548.2.2), (19, vI .u32 y2548.1), (20, vI .i64 y2548.2.1), (21, vI .i64 y2548.2.2)] [] (by kernel_rfl) ?_
        refine TrAt.end_ (by kernel_rfl) ?_
        refine thenQ_n ?_
        refine Tr.seqN (by kernel_rfl) ?_
        refine Tr.conv (Conv.normT (keep := [1, 11, 13, 21]) (ρ := []) ⟨upd (upd (upd (upd (deadT) 21 (vI .i64 y2548.2.2)) 13 (vI .i64 y2509.2.1)) 11 (vS ((x2419 ++ y2499) ++ y2502))) 1 (vS x2418), emptyS, 121, []⟩ (by kernel_rfl)) ?_
        refine Tr.regionN (by kernel_rfl) ?_
        refine TrAt.goS good 4 [(103, vS ((x2419 ++ y2499) ++ y2502)), (104, vS ((x2419 ++ y2499) ++ y2502)), (105, vI .i64 (((x2419 ++ y2499) ++ y2502).size : Int)), (106, vI .i64 (IntKind.wrap .i64 ((((x2419 ++ y2499) ++ y2502).size : Int) - 1)))] [] (by kernel_rfl) ?_
        obtain ⟨g2553, h0⟩ := grd_out h0
        refine TrAt.lawP 107 _ _ (by kernel_rfl) (by kernel_rfl) (by kernel_rfl) (by kernel_rfl) (cutStr_ok good (t := 9) (x := .tmp 103) (lo := none) (hi := (some (.tmp 106))) (b := ((x2419 ++ y2499) ++ y2502)) (l := 0) (h := (IntKind.wrap .i64 ((((x2419 ++ y2499) ++ y2502).size : Int) - 1))) (by kernel_rfl) (by kernel_rfl) (by kernel_rfl) (by kernel_rfl) (by kernel_rfl) g2553) ?_
        refine TrAt.goS good 3 [(108, vI .i64 y2509.2.1), (109, vS x2418), (110, vI .i64 (x2418.size : Int))] [] (by kernel_rfl) ?_
        obtain ⟨y2554, h2555, h0⟩ := bind_out h0
        refine TrAt.callD (caps := []) 111 (.tp [vS y2554.1, vI .i64 y2554.2.1, vI .i64 y2554.2.2]) [] [] (.func 16) #[.tmp 107, .tmp 108, .tmp 110] #[9, 3, 3] (ct_F16 k (((x2419 ++ y2499) ++ y2502).extract (0 : Int).toNat ((IntKind.wrap .i64 ((((x2419 ++ y2499) ++ y2502).size : Int) - 1))).toNat) y2509.2.1 (x2418.size : Int) y2554 h2555) Try.func16 (by kernel_rfl) (by kernel_rfl) (by kernel_rfl) (by kernel_rfl) (by kernel_rfl) (by kernel_rfl) (by kernel_rfl) (by kernel_rfl) (by kernel_rfl) (by kernel_rfl) (by kernel_rfl) (by kernel_rfl) (by kernel_rfl) (by kernel_rfl) (by kernel_rfl) ?_
        refine TrAt.goS good 7 [(102, .tp [vS y2554.1, vI .i64 y2554.2.1, vI .i64 y2554.2.2]), (112, vS y2554.1), (113, vI .i64 y2554.2.1), (114, vI .i64 y2554.2.2), (22, vS y2554.1), (23, vI .i64 y2554.2.1), (24, vI .i64 y2554.2.2)] [] (by kernel_rfl) ?_
        refine TrAt.end_ (by kernel_rfl) ?_
        refine thenQ_n ?_
        refine Tr.seqI (fun st => ∃ y2557, F6_3 k y2557 = some r ∧ st = ⟨upd (deadT) 10 (vB y2557), emptyS, 121, []⟩) (by kernel_rfl) ?_ ?_
        · refine Tr.conv (Conv.normT (keep := [21, 24]) (ρ := []) ⟨upd (upd (deadT) 24 (vI .i64 y2554.2.2)) 21 (vI .i64 y2548.2.2), emptyS, 121, []⟩ (by kernel_rfl)) ?_
          refine Tr.regionN (by kernel_rfl) ?_
          refine TrAt.goS good 3 [(115, vI .i64 y2548.2.2), (116, vB (y2548.2.2 == 3)), (117, vB (y2548.2.2 == 3))] [] (by kernel_rfl) ?_
          cases g2558 : ((y2548.2.2 == 3) : Bool) with
          | true =>
            have h0 := cond_t g2558 h0
            refine TrAt.goS good 4 [(118, vI .i64 y2554.2.2), (119, vB (y2554.2.2 == 3)), (120, vB (y2554.2.2 == 3)), (10, vB (y2554.2.2 == 3))] [] (by kernel_rfl) ?_
            refine TrAt.conv (Conv.normT (keep := [10]) (ρ := []) ⟨upd (deadT) 10 (vB (y2554.2.2 == 3)), emptyS, 121, []⟩ (by kernel_rfl)) ?_
            refine TrAt.end_ (by kernel_rfl) ?_
            refine thenI_n ?_
            exact ⟨(y2554.2.2 == 3), h0, rfl⟩
          | false =>
            have h0 := cond_f g2558 h0
            refine TrAt.goS good 4 [(118, .tp []), (119, .tp []), (120, vB false), (10, vB false)] [] (by kernel_rfl) ?_
            refine TrAt.conv (Conv.normT (keep := [10]) (ρ := []) ⟨upd (deadT) 10 (vB false), emptyS, 121, []⟩ (by kernel_rfl)) ?_
            refine TrAt.end_ (by kernel_rfl) ?_
            refine thenI_n ?_
            exact ⟨false, h0, rfl⟩
        · rintro st ⟨y2557, h0, rfl⟩
          unfold F6_3 at h0
          refine Tr.conv (Conv.normT (keep := [10]) (ρ := []) ⟨upd (deadT) 10 (vB y2557), emptyS, 121, []⟩ (by kernel_rfl)) ?_
          refine Tr.retN (by kernel_rfl) ?_
          cases h0
          exact finQ_r (by kernel_rfl) (by kernel_rfl)
def F7_2 (k : Nat) (y2667 : Bool) : Option Bool :=
  some y2667
def F7_1 (k : Nat) (x2569 : ByteArray) (x2570 : Int) (y2632 : (ByteArray × Int × Int)) (y2658 : Bool) : Option Bool :=
  cond y2658 (some false) (cond (y2632.2.2 != 0) (F7_2 k true) (cond (decide (0 ≤ x2570)) (cond (decide (x2570 < y2632.2.1)) (cond (decide (y2632.2.1 ≤ (x2569.size : Int))) (grd (bnds (x2569.size : Int) x2570 y2632.2.1) <|
  (F12 k y2632.1).bind fun y2673 =>
  F7_2 k ((x2569.extract (x2570).toNat (y2632.2.1).toNat).toList == y2673.toList)) (F7_2 k false)) (F7_2 k false)) (F7_2 k false)))
def F7 (k : Nat) (x2569 : ByteArray) (x2570 : Int) : Option Bool :=
  (F14 k x2569 x2570).bind fun y2628 =>
  (F16 k x2569 x2570 1048576).bind fun y2632 =>
  (F9 k).bind fun y2639 =>
  cond (!y2639) (some false) (cond (y2628.2.2 == 0) (cond (decide (x2570 < 0)) (F7_1 k x2569 x2570 y2632 true) (cond (decide (y2628.2.1 ≤ x2570)) (F7_1 k x2569 x2570 y2632 true) (cond (decide ((x2569.size : Int) < y2628.2.1)) (F7_1 k x2569 x2570 y2632 true) (grd (bnds (x2569.size : Int) x2570 y2628.2.1) <|
  (F10 k y2628.1).bind fun y2680 =>
  F7_1 k x2569 x2570 y2632 (!((x2569.extract (x2570).toNat (y2628.2.1).toNat).toList == y2680.toList)))))) (F7_1 k x2569 x2570 y2632 false))
theorem ct_F7 (k : Nat) (x2569 : ByteArray) (x2570 : Int) (r : Bool) (h0 : F7 k x2569 x2570 = some r) : CTd Try.prog 7 [vS x2569, vI .i64 x2570] [] (vB r) (emptyS) := by
  refine CTd.of_tr Try.f7 Try.func7 (by kernel_rfl) ?_
  unfold F7 at h0
  refine Tr.conv (Conv.normT (keep := [0, 1]) (ρ := []) ⟨upd (upd (deadT) 1 (vI .i64 x2570)) 0 (vS x2569), emptyS, 79, []⟩ (by kernel_rfl)) ?_
  refine Tr.seqN (by kernel_rfl) ?_
  refine Tr.regionN (by kernel_rfl) ?_
  refine TrAt.goS good 1 [(4, vB false)] [] (by kernel_rfl) ?_
  refine TrAt.end_ (by kernel_rfl) ?_
  refine thenQ_n ?_
  refine Tr.seqN (by kernel_rfl) ?_
  refine Tr.regionN (by kernel_rfl) ?_
  refine TrAt.goS good 2 [(12, vS x2569), (13, vI .i64 x2570)] [] (by kernel_rfl) ?_
  obtain ⟨y2628, h2629, h0⟩ := bind_out h0
  refine TrAt.callD (caps := []) 14 (.tp [vI .u32 y2628.1, vI .i64 y2628.2.1, vI .i64 y2628.2.2]) [] [] (.func 14) #[.tmp 12, .tmp 13] #[9, 3] (ct_F14 k x2569 x2570 y2628 h2629) Try.func14 (by kernel_rfl) (by kernel_rfl) (by kernel_rfl) (by kernel_rfl) (by kernel_rfl) (by kernel_rfl) (by kernel_rfl) (by kernel_rfl) (by kernel_rfl) (by kernel_rfl) (by kernel_rfl) (by kernel_rfl) (by kernel_rfl) (by kernel_rfl) (by kernel_rfl) ?_
  refine TrAt.goS good 7 [(11, .tp [vI .u32 y2628.1, vI .i64 y2628.2.1, vI .i64 y2628.2.2]), (15, vI .u32 y2628.1), (16, vI .i64 y2628.2.1), (17, vI .i64 y2628.2.2), (5, vI .u32 y2628.1), (6, vI .i64 y2628.2.1), (7, vI .i64 y2628.2.2)] [] (by kernel_rfl) ?_
  refine TrAt.end_ (by kernel_rfl) ?_
  refine thenQ_n ?_
  refine Tr.seqN (by kernel_rfl) ?_
  refine Tr.regionN (by kernel_rfl) ?_
  refine TrAt.goS good 2 [(19, vS x2569), (20, vI .i64 x2570)] [] (by kernel_rfl) ?_
  obtain ⟨y2632, h2633, h0⟩ := bind_out h0
  refine TrAt.callD (caps := []) 21 (.tp [vS y2632.1, vI .i64 y2632.2.1, vI .i64 y2632.2.2]) [] [] (.func 16) #[.tmp 19, .tmp 20, .const (.int .i64 1048576)] #[9, 3, 3] (ct_F16 k x2569 x2570 1048576 y2632 h2633) Try.func16 (by kernel_rfl) (by kernel_rfl) (by kernel_rfl) (by kernel_rfl) (by kernel_rfl) (by kernel_rfl) (by kernel_rfl) (by kernel_rfl) (by kernel_rfl) (by kernel_rfl) (by kernel_rfl) (by kernel_rfl) (by kernel_rfl) (by kernel_rfl) (by kernel_rfl) ?_
  refine TrAt.goS good 7 [(18, .tp [vS y2632.1, vI .i64 y2632.2.1, vI .i64 y2632.2.2]), (22, vS y2632.1), (23, vI .i64 y2632.2.1), (24, vI .i64 y2632.2.2), (8, vS y2632.1), (9, vI .i64 y2632.2.1), (10, vI .i64 y2632.2.2)] [] (by kernel_rfl) ?_
  refine TrAt.end_ (by kernel_rfl) ?_
  refine thenQ_n ?_
  refine Tr.seqN (by kernel_rfl) ?_
  refine Tr.seqN (by kernel_rfl) ?_
  refine Tr.conv (Conv.normT (keep := [0, 1, 5, 6, 7, 8, 9, 10]) (ρ := []) ⟨upd (upd (upd (upd (upd (upd (upd (upd (deadT) 10 (vI .i64 y2632.2.2)) 9 (vI .i64 y2632.2.1)) 8 (vS y2632.1)) 7 (vI .i64 y2628.2.2)) 6 (vI .i64 y2628.2.1)) 5 (vI .u32 y2628.1)) 1 (vI .i64 x2570)) 0 (vS x2569), emptyS, 79, []⟩ (by kernel_rfl)) ?_
  refine Tr.regionN (by kernel_rfl) ?_
  obtain ⟨y2639, h2640, h0⟩ := bind_out h0
  refine TrAt.callD (caps := []) 25 (vB y2639) [] [] (.func 9) #[] #[] (ct_F9 k y2639 h2640) Try.func9 (by kernel_rfl) (by kernel_rfl) (by kernel_rfl) (by kernel_rfl) (by kernel_rfl) (by kernel_rfl) (by kernel_rfl) (by kernel_rfl) (by kernel_rfl) (by kernel_rfl) (by kernel_rfl) (by kernel_rfl) (by kernel_rfl) (by kernel_rfl) (by kernel_rfl) ?_
  refine TrAt.goS good 1 [(26, vB (!y2639))] [] (by kernel_rfl) ?_
  refine TrAt.end_ (by kernel_rfl) ?_
  refine thenQ_n ?_
  refine Tr.condN (!y2639) (by kernel_rfl) (by kernel_rfl) ?_ ?_
  · intro g2641
    have h0 := cond_t g2641 h0
    refine Tr.seqN (by kernel_rfl) ?_
    refine Tr.regionN (by kernel_rfl) ?_
    refine TrAt.goS good 1 [(4, vB false)] [] (by kernel_rfl) ?_
    refine TrAt.end_ (by kernel_rfl) ?_
    refine thenQ_n ?_
    refine Tr.conv (Conv.normT (keep := [4]) (ρ := []) ⟨upd (deadT) 4 (vB false), emptyS, 79, []⟩ (by kernel_rfl)) ?_
    refine Tr.retN (by kernel_rfl) ?_
    refine thenQ_r ?_
    cases h0
    exact finQ_r (by kernel_rfl) (by kernel_rfl)
  · intro g2641
    have h0 := cond_f g2641 h0
    refine Tr.skipN (by kernel_rfl) ?_
    refine thenQ_n ?_
    refine Tr.seqN (by kernel_rfl) ?_
    refine Tr.seqI (fun st => ∃ y2658, F7_1 k x2569 x2570 y2632 y2658 = some r ∧ st = ⟨upd (upd (upd (upd (upd (upd (deadT) 52 (vB y2658)) 10 (vI .i64 y2632.2.2)) 9 (vI .i64 y2632.2.1)) 8 (vS y2632.1)) 1 (vI .i64 x2570)) 0 (vS x2569), emptyS, 79, []⟩) (by kernel_rfl) ?_ ?_
    · cases g2675 : ((y2628.2.2 == 0) : Bool) with
      | true =>
        have h0 := cond_t g2675 h0
        cases g2676 : ((decide (x2570 < 0)) : Bool) with
        | true =>
          have h0 := cond_t g2676 h0
          refine Tr.draws ⟨upd (upd (upd (upd (upd (upd (deadT) 52 (vB true)) 10 (vI .i64 y2632.2.2)) 9 (vI .i64 y2632.2.1)) 8 (vS y2632.1)) 1 (vI .i64 x2570)) 0 (vS x2569), emptyS, 79, []⟩ [vI .i64 y2628.2.2, vB true, vB true, vI .i64 x2570, vB true, vB true, .tp [], .tp [], .tp [], vB true, vB true, .tp [], .tp [], .tp [], .tp [], vB true, vB true, .tp [], .tp [], .tp [], .tp [], .tp [], .tp [], .tp [], vB true, vB true] [] [] [(0, 0), (1, 0), (2, 0), (3, 0), (4, 0), (5, 0), (6, 0), (7, 0), (8, 0), (9, 0), (10, 0), (11, 0), (12, 0), (13, 0), (14, 0), (15, 0), (16, 0), (17, 0), (18, 0), (19, 0), (20, 0), (21, 0), (22, 0), (23, 0), (24, 0), (25, 0)] (by kernel_rfl) (by kernel_rfl) (by kernel_rfl) ⟨OpLaw.step good (by kernel_rfl), OpLaw.stepE good (v' := vB (y2628.2.2 == 0)) (by kernel_rfl) (congrArg vB g2675), OpLaw.step good (by kernel_rfl), OpLaw.step good (by kernel_rfl), OpLaw.stepE good (v' := vB (decide (x2570 < 0))) (by kernel_rfl) (congrArg vB g2676), OpLaw.step good (by kernel_rfl), OpLaw.step good (by kernel_rfl), OpLaw.step good (by kernel_rfl), OpLaw.step good (by kernel_rfl), OpLaw.step good (by kernel_rfl), OpLaw.step good (by kernel_rfl), OpLaw.step good (by kernel_rfl), OpLaw.step good (by kernel_rfl), OpLaw.step good (by kernel_rfl), OpLaw.step good (by kernel_rfl), OpLaw.step good (by kernel_rfl), OpLaw.step good (by kernel_rfl), OpLaw.step good (by kernel_rfl), OpLaw.step good (by kernel_rfl), OpLaw.step good (by kernel_rfl), OpLaw.step good (by kernel_rfl), OpLaw.step good (by kernel_rfl), OpLaw.step good (by kernel_rfl), OpLaw.step good (by kernel_rfl), OpLaw.step good (by kernel_rfl), OpLaw.step good (by kernel_rfl), trivial⟩ (Conv.normT (keep := [0, 1, 8, 9, 10, 52]) (ρ := []) ⟨upd (upd (upd (upd (upd (upd (deadT) 52 (vB true)) 10 (vI .i64 y2632.2.2)) 9 (vI .i64 y2632.2.1)) 8 (vS y2632.1)) 1 (vI .i64 x2570)) 0 (vS x2569), emptyS, 79, []⟩ (by kernel_rfl)) ?_
          refine thenI_n ?_
          exact ⟨true, h0, rfl⟩
        | false =>
          have h0 := cond_f g2676 h0
          cases g2677 : ((decide (y2628.2.1 ≤ x2570)) : Bool) with
          | true =>
            have h0 := cond_t g2677 h0
            refine Tr.draws ⟨upd (upd (upd (upd (upd (upd (deadT) 52 (vB true)) 10 (vI .i64 y2632.2.2)) 9 (vI .i64 y2632.2.1)) 8 (vS y2632.1)) 1 (vI .i64 x2570)) 0 (vS x2569), emptyS, 79, []⟩ [vI .i64 y2628.2.2, vB true, vB true, vI .i64 x2570, vB false, vB false, vI .i64 y2628.2.1, vI .i64 x2570, vB true, vB true, vB true, .tp [], .tp [], .tp [], .tp [], vB true, vB true, .tp [], .tp [], .tp [], .tp [], .tp [], .tp [], .tp [], vB true, vB true] [] [] [(0, 0), (1, 0), (2, 0), (3, 0), (4, 0), (5, 0), (6, 0), (7, 0), (8, 0), (9, 0), (10, 0), (11, 0), (12, 0), (13, 0), (14, 0), (15, 0), (16, 0), (17, 0), (18, 0), (19, 0), (20, 0), (21, 0), (22, 0), (23, 0), (24, 0), (25, 0)] (by kernel_rfl) (by kernel_rfl) (by kernel_rfl) ⟨OpLaw.step good (by kernel_rfl), OpLaw.stepE good (v' := vB (y2628.2.2 == 0)) (by kernel_rfl) (congrArg vB g2675), OpLaw.step good (by kernel_rfl), OpLaw.step good (by kernel_rfl), OpLaw.stepE good (v' := vB (decide (x2570 < 0))) (by kernel_rfl) (congrArg vB g2676), OpLaw.step good (by kernel_rfl), OpLaw.step good (by kernel_rfl), OpLaw.step good (by kernel_rfl), OpLaw.stepE good (v' := vB (decide (y2628.2.1 ≤ x2570))) (by kernel_rfl) (congrArg vB g2677), OpLaw.step good (by kernel_rfl), OpLaw.step good (by kernel_rfl), OpLaw.step good (by kernel_rfl), OpLaw.step good (by kernel_rfl), OpLaw.step good (by kernel_rfl), OpLaw.step good (by kernel_rfl), OpLaw.step good (by kernel_rfl), OpLaw.step good (by kernel_rfl), OpLaw.step good (by kernel_rfl), OpLaw.step good (by kernel_rfl), OpLaw.step good (by kernel_rfl), OpLaw.step good (by kernel_rfl), OpLaw.step good (by kernel_rfl), OpLaw.step good (by kernel_rfl), OpLaw.step good (by kernel_rfl), OpLaw.step good (by kernel_rfl), OpLaw.step good (by kernel_rfl), trivial⟩ (Conv.normT (keep := [0, 1, 8, 9, 10, 52]) (ρ := []) ⟨upd (upd (upd (upd (upd (upd (deadT) 52 (vB true)) 10 (vI .i64 y2632.2.2)) 9 (vI .i64 y2632.2.1)) 8 (vS y2632.1)) 1 (vI .i64 x2570)) 0 (vS x2569), emptyS, 79, []⟩ (by kernel_rfl)) ?_
            refine thenI_n ?_
            exact ⟨true, h0, rfl⟩
          | false =>
            have h0 := cond_f g2677 h0
            cases g2678 : ((decide ((x2569.size : Int) < y2628.2.1)) : Bool) with
            | true =>
              have h0 := cond_t g2678 h0
              refine Tr.draws ⟨upd (upd (upd (upd (upd (upd (deadT) 52 (vB true)) 10 (vI .i64 y2632.2.2)) 9 (vI .i64 y2632.2.1)) 8 (vS y2632.1)) 1 (vI .i64 x2570)) 0 (vS x2569), emptyS, 79, []⟩ [vI .i64 y2628.2.2, vB true, vB true, vI .i64 x2570, vB false, vB false, vI .i64 y2628.2.1, vI .i64 x2570, vB false, vB false, vB false, vI .i64 y2628.2.1, vS x2569, vI .i64 (x2569.size : Int), vB true, vB true, vB true, .tp [], .tp [], .tp [], .tp [], .tp [], .tp [], .tp [], vB true, vB true] [] [] [(0, 0), (1, 0), (2, 0), (3, 0), (4, 0), (5, 0), (6, 0), (7, 0), (8, 0), (9, 0), (10, 0), (11, 0), (12, 0), (13, 0), (14, 0), (15, 0), (16, 0), (17, 0), (18, 0), (19, 0), (20, 0), (21, 0), (22, 0), (23, 0), (24, 0), (25, 0)] (by kernel_rfl) (by kernel_rfl) (by kernel_rfl) ⟨OpLaw.step good (by kernel_rfl), OpLaw.stepE good (v' := vB (y2628.2.2 == 0)) (by kernel_rfl) (congrArg vB g2675), OpLaw.step good (by kernel_rfl), OpLaw.step good (by kernel_rfl), OpLaw.stepE good (v' := vB (decide (x2570 < 0))) (by kernel_rfl) (congrArg vB g2676), OpLaw.step good (by kernel_rfl), OpLaw.step good (by kernel_rfl), OpLaw.step good (by kernel_rfl), OpLaw.stepE good (v' := vB (decide (y2628.2.1 ≤ x2570))) (by kernel_rfl) (congrArg vB g2677), OpLaw.step good (by kernel_rfl), OpLaw.step good (by kernel_rfl), OpLaw.step good (by kernel_rfl), OpLaw.step good (by kernel_rfl), OpLaw.step good (by kernel_rfl), OpLaw.stepE good (v' := vB (decide ((x2569.size : Int) < y2628.2.1))) (by kernel_rfl) (congrArg vB g2678), OpLaw.step good (by kernel_rfl), OpLaw.step good (by kernel_rfl), OpLaw.step good (by kernel_rfl), OpLaw.step good (by kernel_rfl), OpLaw.step good (by kernel_rfl), OpLaw.step good (by kernel_rfl), OpLaw.step good (by kernel_rfl), OpLaw.step good (by kernel_rfl), OpLaw.step good (by kernel_rfl), OpLaw.step good (by kernel_rfl), OpLaw.step good (by kernel_rfl), trivial⟩ (Conv.normT (keep := [0, 1, 8, 9, 10, 52]) (ρ := []) ⟨upd (upd (upd (upd (upd (upd (deadT) 52 (vB true)) 10 (vI .i64 y2632.2.2)) 9 (vI .i64 y2632.2.1)) 8 (vS y2632.1)) 1 (vI .i64 x2570)) 0 (vS x2569), emptyS, 79, []⟩ (by kernel_rfl)) ?_
              refine thenI_n ?_
              exact ⟨true, h0, rfl⟩
            | false =>
              have h0 := cond_f g2678 h0
              obtain ⟨g2679, h0⟩ := grd_out h0
              obtain ⟨y2680, h2681, h0⟩ := bind_out h0
              refine Tr.draws ⟨upd (upd (upd (upd (upd (upd (deadT) 52 (vB (!((x2569.extract (x2570).toNat (y2628.2.1).toNat).toList == y2680.toList)))) 10 (vI .i64 y2632.2.2)) 9 (vI .i64 y2632.2.1)) 8 (vS y2632.1)) 1 (vI .i64 x2570)) 0 (vS x2569), emptyS, 79, []⟩ [vI .i64 y2628.2.2, vB true, vB true, vI .i64 x2570, vB false, vB false, vI .i64 y2628.2.1, vI .i64 x2570, vB false, vB false, vB false, vI .i64 y2628.2.1, vS x2569, vI .i64 (x2569.size : Int), vB false, vB false, vB false, vS x2569, vI .i64 x2570, vI .i64 y2628.2.1, vS (x2569.extract (x2570).toNat (y2628.2.1).toNat), vI .u32 y2628.1, vS y2680, vB (!((x2569.extract (x2570).toNat (y2628.2.1).toNat).toList == y2680.toList)), vB (!((x2569.extract (x2570).toNat (y2628.2.1).toNat).toList == y2680.toList)), vB (!((x2569.extract (x2570).toNat (y2628.2.1).toNat).toList == y2680.toList))] [fun s => backS [] (emptyS) s] [22] [(0, 0), (0, 1), (1, 0), (1, 1), (2, 0), (2, 1), (3, 0), (3, 1), (4, 0), (4, 1), (5, 0), (5, 1), (6, 0), (6, 1), (7, 0), (7, 1), (8, 0), (8, 1), (9, 0), (9, 1), (10, 0), (10, 1), (11, 0), (11, 1), (12, 0), (12, 1), (13, 0), (13, 1), (14, 0), (14, 1), (15, 0), (15, 1), (16, 0), (17, 0), (17, 1), (18, 0), (18, 1), (19, 0), (19, 1), (20, 0), (20, 1), (21, 0), (22, 0), (23, 1), (24, 0), (24, 1), (25, 0), (25, 1)] (by kernel_rfl) (by kernel_rfl) (by kernel_rfl) ⟨OpLaw.step good (by kernel_rfl), OpLaw.step good (by kernel_rfl), OpLaw.stepE good (v' := vB (y2628.2.2 == 0)) (by kernel_rfl) (congrArg vB g2675), OpLaw.stepE good (v' := vB (y2628.2.2 == 0)) (by kernel_rfl) (congrArg vB g2675), OpLaw.step good (by kernel_rfl), OpLaw.step good (by kernel_rfl), OpLaw.step good (by kernel_rfl), OpLaw.step good (by kernel_rfl), OpLaw.stepE good (v' := vB (decide (x2570 < 0))) (by kernel_rfl) (congrArg vB g2676), OpLaw.stepE good (v' := vB (decide (x2570 < 0))) (by kernel_rfl) (congrArg vB g2676), OpLaw.step good (by kernel_rfl), OpLaw.step good (by kernel_rfl), OpLaw.step good (by kernel_rfl), OpLaw.step good (by kernel_rfl), OpLaw.step good (by kernel_rfl), OpLaw.step good (by kernel_rfl), OpLaw.stepE good (v' := vB (decide (y2628.2.1 ≤ x2570))) (by kernel_rfl) (congrArg vB g2677), OpLaw.stepE good (v' := vB (decide (y2628.2.1 ≤ x2570))) (by kernel_rfl) (congrArg vB g2677), OpLaw.step good (by kernel_rfl), OpLaw.step good (by kernel_rfl), OpLaw.step good (by kernel_rfl), OpLaw.step good (by kernel_rfl), OpLaw.step good (by kernel_rfl), OpLaw.step good (by kernel_rfl), OpLaw.step good (by kernel_rfl), OpLaw.step good (by kernel_rfl), OpLaw.step good (by kernel_rfl), OpLaw.step good (by kernel_rfl), OpLaw.stepE good (v' := vB (decide ((x2569.size : Int) < y2628.2.1))) (by kernel_rfl) (congrArg vB g2678), OpLaw.stepE good (v' := vB (decide ((x2569.size : Int) < y2628.2.1))) (by kernel_rfl) (congrArg vB g2678), OpLaw.step good (by kernel_rfl), OpLaw.step good (by kernel_rfl), OpLaw.step good (by kernel_rfl), OpLaw.step good (by kernel_rfl), OpLaw.step good (by kernel_rfl), OpLaw.step good (by kernel_rfl), OpLaw.step good (by kernel_rfl), OpLaw.step good (by kernel_rfl), OpLaw.step good (by kernel_rfl), OpLaw.ok (v' := vS (x2569.extract (x2570).toNat (y2628.2.1).toNat)) (by kernel_rfl) (by kernel_rfl) (by kernel_rfl) (cutStr_ok good (t := 9) (x := .tmp 44) (lo := (some (.tmp 45))) (hi := (some (.tmp 46))) (b := x2569) (l := x2570) (h := y2628.2.1) (by kernel_rfl) (by kernel_rfl) (by kernel_rfl) (by kernel_rfl) (by kernel_rfl) g2679), OpLaw.ok (v' := vS (x2569.extract (x2570).toNat (y2628.2.1).toNat)) (by kernel_rfl) (by kernel_rfl) (by kernel_rfl) (cutStr_ok good (t := 9) (x := .tmp 44) (lo := (some (.tmp 45))) (hi := (some (.tmp 46))) (b := x2569) (l := x2570) (h := y2628.2.1) (by kernel_rfl) (by kernel_rfl) (by kernel_rfl) (by kernel_rfl) (by kernel_rfl) g2679), OpLaw.step good (by kernel_rfl), OpLaw.callD (caps := []) [] [] (.func 10) #[.tmp 48] #[22] (ct_F10 k y2628.1 y2680 h2681) Try.func10 (by kernel_rfl) (by kernel_rfl) (by kernel_rfl) (by kernel_rfl) (by kernel_rfl) (by kernel_rfl) (by kernel_rfl) (by kernel_rfl) (by kernel_rfl) (by kernel_rfl) (by kernel_rfl) (by kernel_rfl) (by kernel_rfl), OpLaw.step good (by kernel_rfl), OpLaw.step good (by kernel_rfl), OpLaw.step good (by kernel_rfl), OpLaw.step good (by kernel_rfl), OpLaw.step good (by kernel_rfl), trivial⟩ (Conv.normT (keep := [0, 1, 8, 9, 10, 52]) (ρ := []) ⟨upd (upd (upd (upd (upd (upd (deadT) 52 (vB (!((x2569.extract (x2570).toNat (y2628.2.1).toNat).toList == y2680.toList)))) 10 (vI .i64 y2632.2.2)) 9 (vI .i64 y2632.2.1)) 8 (vS y2632.1)) 1 (vI .i64 x2570)) 0 (vS x2569), emptyS, 79, []⟩ (by kernel_rfl)) ?_
              refine thenI_n ?_
              exact ⟨(!((x2569.extract (x2570).toNat (y2628.2.1).toNat).toList == y2680.toList)), h0, rfl⟩
      | false =>
        have h0 := cond_f g2675 h0
        refine Tr.draws ⟨upd (upd (upd (upd (upd (upd (deadT) 52 (vB false)) 10 (vI .i64 y2632.2.2)) 9 (vI .i64 y2632.2.1)) 8 (vS y2632.1)) 1 (vI .i64 x2570)) 0 (vS x2569), emptyS, 79, []⟩ [vI .i64 y2628.2.2, vB false, vB false, .tp [], .tp [], .tp [], .tp [], .tp [], .tp [], .tp [], .tp [], .tp [], .tp [], .tp [], .tp [], .tp [], .tp [], .tp [], .tp [], .tp [], .tp [], .tp [], .tp [], .tp [], .tp [], vB false] [] [] [(0, 0), (1, 0), (2, 0), (3, 0), (4, 0), (5, 0), (6, 0), (7, 0), (8, 0), (9, 0), (10, 0), (11, 0), (12, 0), (13, 0), (14, 0), (15, 0), (16, 0), (17, 0), (18, 0), (19, 0), (20, 0), (21, 0), (22, 0), (23, 0), (24, 0), (25, 0)] (by kernel_rfl) (by kernel_rfl) (by kernel_rfl) ⟨OpLaw.step good (by kernel_rfl), OpLaw.stepE good (v' := vB (y2628.2.2 == 0)) (by kernel_rfl) (congrArg vB g2675), OpLaw.step good (by kernel_rfl), OpLaw.step good (by kernel_rfl), OpLaw.step good (by kernel_rfl), OpLaw.step good (by kernel_rfl), OpLaw.step good (by kernel_rfl), OpLaw.step good (by kernel_rfl), OpLaw.step good (by kernel_rfl), OpLaw.step good (by kernel_rfl), OpLaw.step good (by kernel_rfl), OpLaw.step good (by kernel_rfl), OpLaw.step good (by kernel_rfl), OpLaw.step good (by kernel_rfl), OpLaw.step good (by kernel_rfl), OpLaw.step good (by kernel_rfl), OpLaw.step good (by kernel_rfl), OpLaw.step good (by kernel_rfl), OpLaw.step good (by kernel_rfl), OpLaw.step good (by kernel_rfl), OpLaw.step good (by kernel_rfl), OpLaw.step good (by kernel_rfl), OpLaw.step good (by kernel_rfl), OpLaw.step good (by kernel_rfl), OpLaw.step good (by kernel_rfl), OpLaw.step good (by kernel_rfl), trivial⟩ (Conv.normT (keep := [0, 1, 8, 9, 10, 52]) (ρ := []) ⟨upd (upd (upd (upd (upd (upd (deadT) 52 (vB false)) 10 (vI .i64 y2632.2.2)) 9 (vI .i64 y2632.2.1)) 8 (vS y2632.1)) 1 (vI .i64 x2570)) 0 (vS x2569), emptyS, 79, []⟩ (by kernel_rfl)) ?_
        refine thenI_n ?_
        exact ⟨false, h0, rfl⟩
    · rintro st ⟨y2658, h0, rfl⟩
      unfold F7_1 at h0
      refine Tr.condN y2658 (by kernel_rfl) (by kernel_rfl) ?_ ?_
      · intro g2659
        have h0 := cond_t g2659 h0
        refine Tr.seqN (by kernel_rfl) ?_
        refine Tr.regionN (by kernel_rfl) ?_
        refine TrAt.goS good 1 [(4, vB false)] [] (by kernel_rfl) ?_
        refine TrAt.end_ (by kernel_rfl) ?_
        refine thenQ_n ?_
        refine Tr.conv (Conv.normT (keep := [4]) (ρ := []) ⟨upd (deadT) 4 (vB false), emptyS, 79, []⟩ (by kernel_rfl)) ?_
        refine Tr.retN (by kernel_rfl) ?_
        refine thenQ_r ?_
        cases h0
        exact finQ_r (by kernel_rfl) (by kernel_rfl)
      · intro g2659
        have h0 := cond_f g2659 h0
        refine Tr.skipN (by kernel_rfl) ?_
        refine thenQ_n ?_
        refine Tr.seqI (fun st => ∃ y2667, F7_2 k y2667 = some r ∧ st = ⟨upd (deadT) 4 (vB y2667), emptyS, 79, []⟩) (by kernel_rfl) ?_ ?_
        · cases g2668 : ((y2632.2.2 != 0) : Bool) with
          | true =>
            have h0 := cond_t g2668 h0
            refine Tr.draws ⟨upd (deadT) 4 (vB true), emptyS, 79, []⟩ [vI .i64 y2632.2.2, vB true, vB true, .tp [], .tp [], .tp [], .tp [], .tp [], .tp [], .tp [], .tp [], .tp [], .tp [], .tp [], .tp [], .tp [], .tp [], .tp [], .tp [], .tp [], .tp [], .tp [], .tp [], .tp [], .tp [], vB true, vB true] [] [] [(0, 0), (1, 0), (2, 0), (3, 0), (4, 0), (5, 0), (6, 0), (7, 0), (8, 0), (9, 0), (10, 0), (11, 0), (12, 0), (13, 0), (14, 0), (15, 0), (16, 0), (17, 0), (18, 0), (19, 0), (20, 0), (21, 0), (22, 0), (23, 0), (24, 0), (25, 0), (26, 0)] (by kernel_rfl) (by kernel_rfl) (by kernel_rfl) ⟨OpLaw.step good (by kernel_rfl), OpLaw.stepE good (v' := vB (y2632.2.2 != 0)) (by kernel_rfl) (congrArg vB g2668), OpLaw.step good (by kernel_rfl), OpLaw.step good (by kernel_rfl), OpLaw.step good (by kernel_rfl), OpLaw.step good (by kernel_rfl), OpLaw.step good (by kernel_rfl), OpLaw.step good (by kernel_rfl), OpLaw.step good (by kernel_rfl), OpLaw.step good (by kernel_rfl), OpLaw.step good (by kernel_rfl), OpLaw.step good (by kernel_rfl), OpLaw.step good (by kernel_rfl), OpLaw.step good (by kernel_rfl), OpLaw.step good (by kernel_rfl), OpLaw.step good (by kernel_rfl), OpLaw.step good (by kernel_rfl), OpLaw.step good (by kernel_rfl), OpLaw.step good (by kernel_rfl), OpLaw.step good (by kernel_rfl), OpLaw.step good (by kernel_rfl), OpLaw.step good (by kernel_rfl), OpLaw.step good (by kernel_rfl), OpLaw.step good (by kernel_rfl), OpLaw.step good (by kernel_rfl), OpLaw.step good (by kernel_rfl), OpLaw.step good (by kernel_rfl), trivial⟩ (Conv.normT (keep := [4]) (ρ := []) ⟨upd (deadT) 4 (vB true), emptyS, 79, []⟩ (by kernel_rfl)) ?_
            refine thenI_n ?_
            exact ⟨true, h0, rfl⟩
          | false =>
            have h0 := cond_f g2668 h0
            cases g2669 : ((decide (0 ≤ x2570)) : Bool) with
            | true =>
              have h0 := cond_t g2669 h0
              cases g2670 : ((decide (x2570 < y2632.2.1)) : Bool) with
              | true =>
                have h0 := cond_t g2670 h0
                cases g2671 : ((decide (y2632.2.1 ≤ (x2569.size : Int))) : Bool) with
                | true =>
                  have h0 := cond_t g2671 h0
                  obtain ⟨g2672, h0⟩ := grd_out h0
                  obtain ⟨y2673, h2674, h0⟩ := bind_out h0
                  refine Tr.draws ⟨upd (deadT) 4 (vB ((x2569.extract (x2570).toNat (y2632.2.1).toNat).toList == y2673.toList)), emptyS, 79, []⟩ [vI .i64 y2632.2.2, vB false, vB false, vI .i64 x2570, vB true, vB true, vI .i64 y2632.2.1, vI .i64 x2570, vB true, vB true, vB true, vI .i64 y2632.2.1, vS x2569, vI .i64 (x2569.size : Int), vB true, vB true, vB true, vS x2569, vI .i64 x2570, vI .i64 y2632.2.1, vS (x2569.extract (x2570).toNat (y2632.2.1).toNat), vS y2632.1, vS y2673, vB ((x2569.extract (x2570).toNat (y2632.2.1).toNat).toList == y2673.toList), vB ((x2569.extract (x2570).toNat (y2632.2.1).toNat).toList == y2673.toList), vB ((x2569.extract (x2570).toNat (y2632.2.1).toNat).toList == y2673.toList), vB ((x2569.extract (x2570).toNat (y2632.2.1).toNat).toList == y2673.toList)] [fun s => backS [] (emptyS) s] [22] [(0, 0), (0, 1), (1, 0), (1, 1), (2, 0), (2, 1), (3, 0), (3, 1), (4, 0), (4, 1), (5, 0), (5, 1), (6, 0), (6, 1), (7, 0), (7, 1), (8, 0), (8, 1), (9, 0), (9, 1), (10, 0), (10, 1), (11, 0), (11, 1), (12, 0), (12, 1), (13, 0), (13, 1), (14, 0), (14, 1), (15, 0), (15, 1), (16, 0), (17, 0), (17, 1), (18, 0), (18, 1), (19, 0), (19, 1), (20, 0), (20, 1), (21, 0), (22, 0), (23, 1), (24, 0), (24, 1), (25, 0), (25, 1), (26, 1)] (by kernel_rfl) (by kernel_rfl) (by kernel_rfl) ⟨OpLaw.step good (by kernel_rfl), OpLaw.step good (by kernel_rfl), OpLaw.stepE good (v' := vB (y2632.2.2 != 0)) (by kernel_rfl) (congrArg vB g2668), OpLaw.stepE good (v' := vB (y2632.2.2 != 0)) (by kernel_rfl) (congrArg vB g2668), OpLaw.step good (by kernel_rfl), OpLaw.step good (by kernel_rfl), OpLaw.step good (by kernel_rfl), OpLaw.step good (by kernel_rfl), OpLaw.stepE good (v' := vB (decide (0 ≤ x2570))) (by kernel_rfl) (congrArg vB g2669), OpLaw.stepE good (v' := vB (decide (0 ≤ x2570))) (by kernel_rfl) (congrArg vB g2669), OpLaw.step good (by kernel_rfl), OpLaw.step good (by kernel_rfl), OpLaw.step good (by kernel_rfl), OpLaw.step good (by kernel_rfl), OpLaw.step good (by kernel_rfl), OpLaw.step good (by kernel_rfl), OpLaw.stepE good (v' := vB (decide (x2570 < y2632.2.1))) (by kernel_rfl) (congrArg vB g2670), OpLaw.stepE good (v' := vB (decide (x2570 < y2632.2.1))) (by kernel_rfl) (congrArg vB g2670), OpLaw.step good (by kernel_rfl), OpLaw.step good (by kernel_rfl), OpLaw.step good (by kernel_rfl), OpLaw.step good (by kernel_rfl), OpLaw.step good (by kernel_rfl), OpLaw.step good (by kernel_rfl), OpLaw.step good (by kernel_rfl), OpLaw.step good (by kernel_rfl), OpLaw.step good (by kernel_rfl), OpLaw.step good (by kernel_rfl), OpLaw.stepE good (v' := vB (decide (y2632.2.1 ≤ (x2569.size : Int)))) (by kernel_rfl) (congrArg vB g2671), OpLaw.stepE good (v' := vB (decide (y2632.2.1 ≤ (x2569.size : Int)))) (by kernel_rfl) (congrArg vB g2671), OpLaw.step good (by kernel_rfl), OpLaw.step good (by kernel_rfl), OpLaw.step good (by kernel_rfl), OpLaw.step good (by kernel_rfl), OpLaw.step good (by kernel_rfl), OpLaw.step good (by kernel_rfl), OpLaw.step good (by kernel_rfl), OpLaw.step good (by kernel_rfl), OpLaw.step good (by kernel_rfl), OpLaw.ok (v' := vS (x2569.extract (x2570).toNat (y2632.2.1).toNat)) (by kernel_rfl) (by kernel_rfl) (by kernel_rfl) (cutStr_ok good (t := 9) (x := .tmp 70) (lo := (some (.tmp 71))) (hi := (some (.tmp 72))) (b := x2569) (l := x2570) (h := y2632.2.1) (by kernel_rfl) (by kernel_rfl) (by kernel_rfl) (by kernel_rfl) (by kernel_rfl) g2672), OpLaw.ok (v' := vS (x2569.extract (x2570).toNat (y2632.2.1).toNat)) (by kernel_rfl) (by kernel_rfl) (by kernel_rfl) (cutStr_ok good (t := 9) (x := .tmp 70) (lo := (some (.tmp 71))) (hi := (some (.tmp 72))) (b := x2569) (l := x2570) (h := y2632.2.1) (by kernel_rfl) (by kernel_rfl) (by kernel_rfl) (by kernel_rfl) (by kernel_rfl) g2672), OpLaw.step good (by kernel_rfl), OpLaw.callD (caps := []) [] [] (.func 12) #[.tmp 74] #[9] (ct_F12 k y2632.1 y2673 h2674) Try.func12 (by kernel_rfl) (by kernel_rfl) (by kernel_rfl) (by kernel_rfl) (by kernel_rfl) (by kernel_rfl) (by kernel_rfl) (by kernel_rfl) (by kernel_rfl) (by kernel_rfl) (by kernel_rfl) (by kernel_rfl) (by kernel_rfl), OpLaw.step good (by kernel_rfl), OpLaw.step good (by kernel_rfl), OpLaw.step good (by kernel_rfl), OpLaw.step good (by kernel_rfl), OpLaw.step good (by kernel_rfl), OpLaw.step good (by kernel_rfl), trivial⟩ (Conv.normT (keep := [4]) (ρ := []) ⟨upd (deadT) 4 (vB ((x2569.extract (x2570).toNat (y2632.2.1).toNat).toList == y2673.toList)), emptyS, 79, []⟩ (by kernel_rfl)) ?_
                  refine thenI_n ?_
                  exact ⟨((x2569.extract (x2570).toNat (y2632.2.1).toNat).toList == y2673.toList), h0, rfl⟩
                | false =>
                  have h0 := cond_f g2671 h0
                  refine Tr.draws ⟨upd (deadT) 4 (vB false), emptyS, 79, []⟩ [vI .i64 y2632.2.2, vB false, vB false, vI .i64 x2570, vB true, vB true, vI .i64 y2632.2.1, vI .i64 x2570, vB true, vB true, vB true, vI .i64 y2632.2.1, vS x2569, vI .i64 (x2569.size : Int), vB false, vB false, vB false, .tp [], .tp [], .tp [], .tp [], .tp [], .tp [], .tp [], vB false, vB false, vB false] [] [] [(0, 0), (1, 0), (2, 0), (3, 0), (4, 0), (5, 0), (6, 0), (7, 0), (8, 0), (9, 0), (10, 0), (11, 0), (12, 0), (13, 0), (14, 0), (15, 0), (16, 0), (17, 0), (18, 0), (19, 0), (20, 0), (21, 0), (22, 0), (23, 0), (24, 0), (25, 0), (26, 0)] (by kernel_rfl) (by kernel_rfl) (by kernel_rfl) ⟨OpLaw.step good (by kernel_rfl), OpLaw.stepE good (v' := vB (y2632.2.2 != 0)) (by kernel_rfl) (congrArg vB g2668), OpLaw.step good (by kernel_rfl), OpLaw.step good (by kernel_rfl), OpLaw.stepE good (v' := vB (decide (0 ≤ x2570))) (by kernel_rfl) (congrArg vB g2669), OpLaw.step good (by kernel_rfl), OpLaw.step good (by kernel_rfl), OpLaw.step good (by kernel_rfl), OpLaw.stepE good (v' := vB (decide (x2570 < y2632.2.1))) (by kernel_rfl) (congrArg vB g2670), OpLaw.step good (by kernel_rfl), OpLaw.step good (by kernel_rfl), OpLaw.step good (by kernel_rfl), OpLaw.step good (by kernel_rfl), OpLaw.step good (by kernel_rfl), OpLaw.stepE good (v' := vB (decide (y2632.2.1 ≤ (x2569.size : Int)))) (by kernel_rfl) (congrArg vB g2671), OpLaw.step good (by kernel_rfl), OpLaw.step good (by kernel_rfl), OpLaw.step good (by kernel_rfl), OpLaw.step good (by kernel_rfl), OpLaw.step good (by kernel_rfl), OpLaw.step good (by kernel_rfl), OpLaw.step good (by kernel_rfl), OpLaw.step good (by kernel_rfl), OpLaw.step good (by kernel_rfl), OpLaw.step good (by kernel_rfl), OpLaw.step good (by kernel_rfl), OpLaw.step good (by kernel_rfl), trivial⟩ (Conv.normT (keep := [4]) (ρ := []) ⟨upd (deadT) 4 (vB false), emptyS, 79, []⟩ (by kernel_rfl)) ?_
                  refine thenI_n ?_
                  exact ⟨false, h0, rfl⟩
              | false =>
                have h0 := cond_f g2670 h0
                refine Tr.draws ⟨upd (deadT) 4 (vB false), emptyS, 79, []⟩ [vI .i64 y2632.2.2, vB false, vB false, vI .i64 x2570, vB true, vB true, vI .i64 y2632.2.1, vI .i64 x2570, vB false, vB false, vB false, .tp [], .tp [], .tp [], .tp [], vB false, vB false, .tp [], .tp [], .tp [], .tp [], .tp [], .tp [], .tp [], vB false, vB false, vB false] [] [] [(0, 0), (1, 0), (2, 0), (3, 0), (4, 0), (5, 0), (6, 0), (7, 0), (8, 0), (9, 0), (10, 0), (11, 0), (12, 0), (13, 0), (14, 0), (15, 0), (16, 0), (17, 0), (18, 0), (19, 0), (20, 0), (21, 0), (22, 0), (23, 0), (24, 0), (25, 0), (26, 0)] (by kernel_rfl) (by kernel_rfl) (by kernel_rfl) ⟨OpLaw.step good (by kernel_rfl), OpLaw.stepE good (v' := vB (y2632.2.2 != 0)) (by kernel_rfl) (congrArg vB g2668), OpLaw.step good (by kernel_rfl), OpLaw.step good (by kernel_rfl), OpLaw.stepE good (v' := vB (decide (0 ≤ x2570))) (by kernel_rfl) (congrArg vB g2669), OpLaw.step good (by kernel_rfl), OpLaw.step good (by kernel_rfl), OpLaw.step good (by kernel_rfl), OpLaw.stepE good (v' := vB (decide (x2570 < y2632.2.1))) (by kernel_rfl) (congrArg vB g2670), OpLaw.step good (by kernel_rfl), OpLaw.step good (by kernel_rfl), OpLaw.step good (by kernel_rfl), OpLaw.step good (by kernel_rfl), OpLaw.step good (by kernel_rfl), OpLaw.step good (by kernel_rfl), OpLaw.step good (by kernel_rfl), OpLaw.step good (by kernel_rfl), OpLaw.step good (by kernel_rfl), OpLaw.step good (by kernel_rfl), OpLaw.step good (by kernel_rfl), OpLaw.step good (by kernel_rfl), OpLaw.step good (by kernel_rfl), OpLaw.step good (by kernel_rfl), OpLaw.step good (by kernel_rfl), OpLaw.step good (by kernel_rfl), OpLaw.step good (by kernel_rfl), OpLaw.step good (by kernel_rfl), trivial⟩ (Conv.normT (keep := [4]) (ρ := []) ⟨upd (deadT) 4 (vB false), emptyS, 79, []⟩ (by kernel_rfl)) ?_
                refine thenI_n ?_
                exact ⟨false, h0, rfl⟩
            | false =>
              have h0 := cond_f g2669 h0
              refine Tr.draws ⟨upd (deadT) 4 (vB false), emptyS, 79, []⟩ [vI .i64 y2632.2.2, vB false, vB false, vI .i64 x2570, vB false, vB false, .tp [], .tp [], .tp [], vB false, vB false, .tp [], .tp [], .tp [], .tp [], vB false, vB false, .tp [], .tp [], .tp [], .tp [], .tp [], .tp [], .tp [], vB false, vB false, vB false] [] [] [(0, 0), (1, 0), (2, 0), (3, 0), (4, 0), (5, 0), (6, 0), (7, 0), (8, 0), (9, 0), (10, 0), (11, 0), (12, 0), (13, 0), (14, 0), (15, 0), (16, 0), (17, 0), (18, 0), (19, 0), (20, 0), (21, 0), (22, 0), (23, 0), (24, 0), (25, 0), (26, 0)] (by kernel_rfl) (by kernel_rfl) (by kernel_rfl) ⟨OpLaw.step good (by kernel_rfl), OpLaw.stepE good (v' := vB (y2632.2.2 != 0)) (by kernel_rfl) (congrArg vB g2668), OpLaw.step good (by kernel_rfl), OpLaw.step good (by kernel_rfl), OpLaw.stepE good (v' := vB (decide (0 ≤ x2570))) (by kernel_rfl) (congrArg vB g2669), OpLaw.step good (by kernel_rfl), OpLaw.step good (by kernel_rfl), OpLaw.step good (by kernel_rfl), OpLaw.step good (by kernel_rfl), OpLaw.step good (by kernel_rfl), OpLaw.step good (by kernel_rfl), OpLaw.step good (by kernel_rfl), OpLaw.step good (by kernel_rfl), OpLaw.step good (by kernel_rfl), OpLaw.step good (by kernel_rfl), OpLaw.step good (by kernel_rfl), OpLaw.step good (by kernel_rfl), OpLaw.step good (by kernel_rfl), OpLaw.step good (by kernel_rfl), OpLaw.step good (by kernel_rfl), OpLaw.step good (by kernel_rfl), OpLaw.step good (by kernel_rfl), OpLaw.step good (by kernel_rfl), OpLaw.step good (by kernel_rfl), OpLaw.step good (by kernel_rfl), OpLaw.step good (by kernel_rfl), OpLaw.step good (by kernel_rfl), trivial⟩ (Conv.normT (keep := [4]) (ρ := []) ⟨upd (deadT) 4 (vB false), emptyS, 79, []⟩ (by kernel_rfl)) ?_
              refine thenI_n ?_
              exact ⟨false, h0, rfl⟩
        · rintro st ⟨y2667, h0, rfl⟩
          unfold F7_2 at h0
          refine Tr.conv (Conv.normT (keep := [4]) (ρ := []) ⟨upd (deadT) 4 (vB y2667), emptyS, 79, []⟩ (by kernel_rfl)) ?_
          refine Tr.retN (by kernel_rfl) ?_
          cases h0
          exact finQ_r (by kernel_rfl) (by kernel_rfl)
end Go.Proofs.Ytcadbihgfahjjaa.N

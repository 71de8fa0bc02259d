/- What the functions compute, natively, and that they do. Printed by a program (wip/gen). -/
import Derived.Test.YtljbepjbecjpiaaMc2
import Derived.Test.YtljbepjbecjpiaaProg
namespace Go.Proofs.Ytljbepjbecjpiaa.N
open Go.RowKit Go.Proofs.Ytljbepjbecjpiaa.Mc Go.Proofs
set_option maxRecDepth 100000
set_option linter.unusedVariables false
noncomputable abbrev D := decOf Try.prog
theorem good : Go.Proofs.Ytljbepjbecjpiaa.Mc.Good Try.prog D := good_of _
structure E50 where
  f0 : Int
  f1 : Int
  deriving Inhabited
def en50 (x : E50) : List T := [.sc (.int .i64 x.f0), .sc (.int .i64 x.f1)]
theorem wide50 : Wide (D.size 50) en50 := fun _ => by kernel_rfl
structure E35 where
  f0 : Int
  f1 : Int
  f2 : (List E50)
  deriving Inhabited
def en35 (x : E35) : List T := [.sc (.int .u32 x.f0), .sc (.int .u32 x.f1), .fz .u (x.f2.map en50)]
theorem wide35 : Wide (D.size 35) en35 := fun _ => by kernel_rfl
def en29 (x : Int) : List T := [.sc (.int .u32 x)]
theorem wide29 : Wide (D.size 29) en29 := fun _ => by kernel_rfl
def en3 (x : Int) : List T := [.sc (.int .i64 x)]
theorem wide3 : Wide (D.size 3) en3 := fun _ => by kernel_rfl
def en28 (x : (List Int)) : List T := [.fz .u (x.map en3)]
theorem wide28 : Wide (D.size 28) en28 := fun _ => by kernel_rfl
structure E48 where
  f0 : Int
  f1 : Int
  f2 : Int
  f3 : Int
  f4 : (List E50)
  f5 : Bool
  deriving Inhabited
def en48 (x : E48) : List T := [.sc (.int .i64 x.f0), .sc (.int .i64 x.f1), .sc (.int .u32 x.f2), .sc (.int .u32 x.f3), .fz .u (x.f4.map en50), .sc (.bool x.f5)]
theorem wide48 : Wide (D.size 48) en48 := fun _ => by kernel_rfl
def F19 (k : Nat) (x3 : Int) : Option Unit :=
  some ()
theorem ct_F19 (k : Nat) (x3 : Int) (r : Unit) (h0 : F19 k x3 = some r) : CTd Try.prog 19 [.t (.sc (.pointer none)), vI .u32 x3] [] (.tp [.ag [vI .u32 0, vI .u32 0, .t (.sc (.slice none 0 0))], vB false]) (upd (emptyS) 500000 (some (some (.bx 35 [vI .u32 0, vI .u32 0, .t (.sc (.slice none 0 0))])))) := by
  refine CTd.of_tr Try.f19 Try.func19 (by kernel_rfl) ?_
  unfold F19 at h0
  refine Tr.conv (Conv.normT (keep := [0, 1]) (ρ := []) ⟨upd (upd (deadT) 1 (vI .u32 x3)) 0 (.t (.sc (.pointer none))), emptyS, 27, []⟩ (by kernel_rfl)) ?_
  refine Tr.seqN (by kernel_rfl) ?_
  refine Tr.regionN (by kernel_rfl) ?_
  refine TrAt.goS good 2 [(4, .pt 4 0), (5, vB false)] [(4, .bx 35 [vI .u32 0, vI .u32 0, .t (.sc (.slice none 0 0))])] (by kernel_rfl) ?_
  refine TrAt.end_ (by kernel_rfl) ?_
  refine thenQ_n ?_
  refine Tr.seqN (by kernel_rfl) ?_
  refine Tr.seqN (by kernel_rfl) ?_
  refine Tr.regionN (by kernel_rfl) ?_
  refine TrAt.goS good 2 [(8, .t (.sc (.pointer none))), (9, vB false)] [] (by kernel_rfl) ?_
  refine TrAt.end_ (by kernel_rfl) ?_
  refine thenQ_n ?_
  refine Tr.condF (by kernel_rfl) (by kernel_rfl) ?_
  refine Tr.skipN (by kernel_rfl) ?_
  refine thenQ_n ?_
  refine Tr.seqN (by kernel_rfl) ?_
  refine Tr.regionN (by kernel_rfl) ?_
  refine TrAt.goS good 3 [(26, .ag [vI .u32 0, vI .u32 0, .t (.sc (.slice none 0 0))]), (5, vB false)] [(4, .bx 35 [vI .u32 0, vI .u32 0, .t (.sc (.slice none 0 0))])] (by kernel_rfl) ?_
  refine TrAt.end_ (by kernel_rfl) ?_
  refine thenQ_n ?_
  refine Tr.conv (Conv.normT (keep := [4, 5]) (ρ := [(4, 500000)]) ⟨upd (upd (deadT) 5 (vB false)) 4 (.pt 500000 0), upd (emptyS) 500000 (some (some (.bx 35 [vI .u32 0, vI .u32 0, .t (.sc (.slice none 0 0))]))), 27, []⟩ (by kernel_rfl)) ?_
  refine Tr.retN (by kernel_rfl) ?_
  cases h0
  exact finQ_r (by kernel_rfl) (by kernel_rfl)
def F13 (k : Nat)  : Option Unit :=
  some ()
theorem ct_F13 (k : Nat)  (r : Unit) (h0 : F13 k = some r) : CTd Try.prog 13 [] [] (.pt 500000 0) (upd (emptyS) 500000 (some (some (.bx 59 [.t (.sc (.slice none 0 0)), vI .u32 0])))) := by
  refine CTd.of_tr Try.f13 Try.func13 (by kernel_rfl) ?_
  unfold F13 at h0
  refine Tr.conv (Conv.normT (keep := []) (ρ := []) ⟨deadT, emptyS, 3, []⟩ (by kernel_rfl)) ?_
  refine Tr.seqN (by kernel_rfl) ?_
  refine Tr.regionN (by kernel_rfl) ?_
  refine TrAt.goS good 1 [(0, .t (.sc (.pointer none)))] [] (by kernel_rfl) ?_
  refine TrAt.end_ (by kernel_rfl) ?_
  refine thenQ_n ?_
  refine Tr.seqN (by kernel_rfl) ?_
  refine Tr.regionN (by kernel_rfl) ?_
  refine TrAt.goS good 3 [(1, .ag [.t (.sc (.slice none 0 0)), vI .u32 0]), (2, .pt 2 0), (0, .pt 2 0)] [(2, .bx 59 [.t (.sc (.slice none 0 0)), vI .u32 0])] (by kernel_rfl) ?_
  refine TrAt.end_ (by kernel_rfl) ?_
  refine thenQ_n ?_
  refine Tr.conv (Conv.normT (keep := [0]) (ρ := [(2, 500000)]) ⟨upd (deadT) 0 (.pt 500000 0), upd (emptyS) 500000 (some (some (.bx 59 [.t (.sc (.slice none 0 0)), vI .u32 0]))), 3, []⟩ (by kernel_rfl)) ?_
  refine Tr.retN (by kernel_rfl) ?_
  cases h0
  exact finQ_r (by kernel_rfl) (by kernel_rfl)
def F30 (k : Nat) (x31 : (List E50)) : Option Unit :=
  grd (decide ((([] : List E50).length + x31.length) * 16 ≤ 140737488355328)) <|
  some ()
theorem ct_F30 (k : Nat) (x31 : (List E50)) (r : Unit) (h0 : F30 k x31 = some r) : CTd Try.prog 30 [.sl .e 1000000] [(1000000, .ar 50 2 (x31.map en50))] (.sl .e 500000) (upd (upd (emptyS) 500000 (some (some (.ar 50 2 ((([] : List E50) ++ x31).map en50))))) 1000000 (some (some (.ar 50 2 (x31.map en50))))) := by
  refine CTd.of_tr Try.f30 Try.func30 (by kernel_rfl) ?_
  unfold F30 at h0
  refine Tr.conv (Conv.normT (keep := [0]) (ρ := [(1000000, 1000000)]) ⟨upd (deadT) 0 (.sl .e 1000000), upd (emptyS) 1000000 (some (some (.ar 50 2 (x31.map en50)))), 8, [1000000]⟩ (by kernel_rfl)) ?_
  refine Tr.seqN (by kernel_rfl) ?_
  refine Tr.regionN (by kernel_rfl) ?_
  refine TrAt.goS good 1 [(2, .t (.sc (.slice none 0 0)))] [] (by kernel_rfl) ?_
  refine TrAt.end_ (by kernel_rfl) ?_
  refine thenQ_n ?_
  refine Tr.seqN (by kernel_rfl) ?_
  refine Tr.seqN (by kernel_rfl) ?_
  refine Tr.regionN (by kernel_rfl) ?_
  refine TrAt.goS good 2 [(3, .sl .e 1000000), (4, vB false)] [] (by kernel_rfl) ?_
  refine TrAt.end_ (by kernel_rfl) ?_
  refine thenQ_n ?_
  refine Tr.condF (by kernel_rfl) (by kernel_rfl) ?_
  refine Tr.skipN (by kernel_rfl) ?_
  refine thenQ_n ?_
  refine Tr.seqN (by kernel_rfl) ?_
  refine Tr.regionN (by kernel_rfl) ?_
  refine TrAt.lawP 5 _ _ (by kernel_rfl) (by kernel_rfl) (by kernel_rfl) (by kernel_rfl) (bsP_ok good (t := 33) (e := 50) (d := 5) (len := 0) (parts := #[]) (rows := (([] : List E50)).map en50) (by kernel_rfl) (by kernel_rfl) (by kernel_rfl) (by kernel_rfl) (by kernel_rfl) (by kernel_rfl)) ?_
  refine TrAt.goS good 1 [(6, .sl .e 1000000)] [] (by kernel_rfl) ?_
  obtain ⟨g34, h0⟩ := grd_out h0
  refine TrAt.lawP 7 _ _ (by kernel_rfl) (by kernel_rfl) (by kernel_rfl) (by kernel_rfl) (apP_ok good (x := .tmp 5) (y := .tmp 6) (t := 33) (e := 50) (d := 7) (nl := .e) (enc := en50) (xs := ([] : List E50)) (ys := x31) (oo := (some 5)) (bz := 16) (by kernel_rfl) (by kernel_rfl) (by kernel_rfl) (by kernel_rfl) (by kernel_rfl) (by kernel_rfl) wide50 (by kernel_rfl) g34) ?_
  refine TrAt.goS good 1 [(2, .sl .e 7)] [] (by kernel_rfl) ?_
  refine TrAt.end_ (by kernel_rfl) ?_
  refine thenQ_n ?_
  refine Tr.conv (Conv.normT (keep := [2]) (ρ := [(1000000, 1000000), (7, 500000)]) ⟨upd (deadT) 2 (.sl .e 500000), upd (upd (emptyS) 500000 (some (some (.ar 50 2 ((([] : List E50) ++ x31).map en50))))) 1000000 (some (some (.ar 50 2 (x31.map en50)))), 8, [1000000]⟩ (by kernel_rfl)) ?_
  refine Tr.retN (by kernel_rfl) ?_
  cases h0
  exact finQ_r (by kernel_rfl) (by kernel_rfl)
def F26 (k : Nat) (x28 : Int) (x29 : Int) (x30 : (List E50)) : Option Unit :=
  (F30 k x30).bind fun y39 =>
  some ()
theorem ct_F26 (k : Nat) (x28 : Int) (x29 : Int) (x30 : (List E50)) (r : Unit) (h0 : F26 k x28 x29 x30 = some r) : CTd Try.prog 26 [.ag [vI .u32 x28, vI .u32 x29, .sl .e 1000000]] [(1000000, .ar 50 2 (x30.map en50))] (.ag [vI .u32 x28, vI .u32 x29, .t (.fz .u ((([] : List E50) ++ x30).map en50))]) (upd (upd (emptyS) 500000 (some (some (.bx 35 [vI .u32 x28, vI .u32 x29, .t (.fz .u ((([] : List E50) ++ x30).map en50))])))) 1000000 (some (some (.ar 50 2 (x30.map en50))))) := by
  refine CTd.of_tr Try.f26 Try.func26 (by kernel_rfl) ?_
  unfold F26 at h0
  refine Tr.conv (Conv.normT (keep := [0]) (ρ := [(1000000, 1000000)]) ⟨upd (deadT) 0 (.ag [vI .u32 x28, vI .u32 x29, .sl .e 1000000]), upd (emptyS) 1000000 (some (some (.ar 50 2 (x30.map en50)))), 8, [1000000]⟩ (by kernel_rfl)) ?_
  refine Tr.seqN (by kernel_rfl) ?_
  refine Tr.regionN (by kernel_rfl) ?_
  refine TrAt.goS good 2 [(1, .pt 1 0), (2, .pt 2 0)] [(1, .bx 35 [vI .u32 x28, vI .u32 x29, .sl .e 1000000]), (2, .bx 35 [vI .u32 0, vI .u32 0, .t (.sc (.slice none 0 0))])] (by kernel_rfl) ?_
  refine TrAt.end_ (by kernel_rfl) ?_
  refine thenQ_n ?_
  refine Tr.seqN (by kernel_rfl) ?_
  refine Tr.regionN (by kernel_rfl) ?_
  refine TrAt.goS good 2 [(3, .pt 1 2), (4, .sl .e 1000000)] [] (by kernel_rfl) ?_
  obtain ⟨y39, h40, h0⟩ := bind_out h0
  refine TrAt.callD (caps := []) 5 (.sl .e 400100) [(1000000, 1000000)] [(500000, 400100)] (.func 30) #[.tmp 4] #[33] (ct_F30 k x30 y39 h40) Try.func30 (by kernel_rfl) (by kernel_rfl) (by kernel_rfl) (by kernel_rfl) (by kernel_rfl) (by kernel_rfl) (by kernel_rfl) (by kernel_rfl) (by kernel_rfl) (by kernel_rfl) (by kernel_rfl) (by kernel_rfl) (by kernel_rfl) (by kernel_rfl) (by kernel_rfl) ?_
  refine TrAt.goS good 2 [(6, .pt 1 2)] [(1, .bx 35 [vI .u32 x28, vI .u32 x29, .sl .e 400100])] (by kernel_rfl) ?_
  refine TrAt.end_ (by kernel_rfl) ?_
  refine thenQ_n ?_
  refine Tr.seqN (by kernel_rfl) ?_
  refine Tr.regionN (by kernel_rfl) ?_
  refine TrAt.goS good 2 [(7, .ag [vI .u32 x28, vI .u32 x29, .sl .e 400100])] [(2, .bx 35 [vI .u32 x28, vI .u32 x29, .sl .e 400100])] (by kernel_rfl) ?_
  refine TrAt.end_ (by kernel_rfl) ?_
  refine thenQ_n ?_
  refine Tr.conv (Conv.freezeP 400100 50 2 ((([] : List E50) ++ x30).map en50) (by kernel_rfl)) ?_
  refine Tr.conv (Conv.weakBox 2 35 [vI .u32 x28, vI .u32 x29, .t (.fz .e ((([] : List E50) ++ x30).map en50))] [vI .u32 x28, vI .u32 x29, .t (.fz .u ((([] : List E50) ++ x30).map en50))] (by kernel_rfl) (.cons _ _ _ _ (.refl _) (.cons _ _ _ _ (.refl _) (.cons _ _ _ _ (.fz _ _) (.nil))))) ?_
  refine Tr.conv (Conv.normT (keep := [2]) (ρ := [(1000000, 1000000), (2, 500000)]) ⟨upd (deadT) 2 (.pt 500000 0), upd (upd (emptyS) 500000 (some (some (.bx 35 [vI .u32 x28, vI .u32 x29, .t (.fz .u ((([] : List E50) ++ x30).map en50))])))) 1000000 (some (some (.ar 50 2 (x30.map en50)))), 8, [1000000]⟩ (by kernel_rfl)) ?_
  refine Tr.retN (by kernel_rfl) ?_
  cases h0
  exact finQ_r (by kernel_rfl) (by kernel_rfl)
def F14_1 (k : Nat) (x12 : Int) (x13 : Int) (x14 : Int) (x15 : (List E50)) (y51 : Bool) : Option (Int × Int × (List E35)) :=
  cond y51 (some (1, x14, [])) (cond (decide (x12 ≤ x14)) (some (7, x14, [])) ((F26 k x12 x13 x15).bind fun y54 =>
  grd (decide ((([] : List E35).length + ([(E35.mk x12 x13 (([] : List E50) ++ x15))]).length) * 32 ≤ 140737488355328)) <|
  some (0, x12, (([] : List E35) ++ ([(E35.mk x12 x13 (([] : List E50) ++ x15))])))))
def F14 (k : Nat) (x12 : Int) (x13 : Int) (x14 : Int) (x15 : (List E50)) : Option (Int × Int × (List E35)) :=
  cond (x12 == 0) (F14_1 k x12 x13 x14 x15 true) (F14_1 k x12 x13 x14 x15 ((x15.length : Int) == 0))
theorem ct_F14 (k : Nat) (x12 : Int) (x13 : Int) (x14 : Int) (x15 : (List E50)) (r : (Int × Int × (List E35))) (h0 : F14 k x12 x13 x14 x15 = some r) : CTd Try.prog 14 [.pt 1000000 0, .ag [vI .u32 x12, vI .u32 x13, .sl .e 1000001]] [(1000000, .bx 59 [.t (.sc (.slice none 0 0)), vI .u32 x14]), (1000001, .ar 50 2 (x15.map en50))] (vI .i64 r.1) (upd (upd (upd (emptyS) 500000 (some (some (.ar 35 3 (r.2.2.map en35))))) 1000001 (some (some (.ar 50 2 (x15.map en50))))) 1000000 (some (some (.bx 59 [.sl .n 500000, vI .u32 r.2.1])))) := by
  refine CTd.of_tr Try.f14 Try.func14 (by kernel_rfl) ?_
  unfold F14 at h0
  refine Tr.conv (Conv.normT (keep := [0, 1]) (ρ := [(1000000, 1000000), (1000001, 1000001)]) ⟨upd (upd (deadT) 1 (.ag [vI .u32 x12, vI .u32 x13, .sl .e 1000001])) 0 (.pt 1000000 0), upd (upd (emptyS) 1000001 (some (some (.ar 50 2 (x15.map en50))))) 1000000 (some (some (.bx 59 [.t (.sc (.slice none 0 0)), vI .u32 x14]))), 43, [1000000, 1000001]⟩ (by kernel_rfl)) ?_
  refine Tr.seqN (by kernel_rfl) ?_
  refine Tr.regionN (by kernel_rfl) ?_
  refine TrAt.goS good 2 [(3, .pt 3 0), (4, vI .i64 0)] [(3, .bx 35 [vI .u32 x12, vI .u32 x13, .sl .e 1000001])] (by kernel_rfl) ?_
  refine TrAt.end_ (by kernel_rfl) ?_
  refine thenQ_n ?_
  refine Tr.seqN (by kernel_rfl) ?_
  refine Tr.blockN (by kernel_rfl) ?_
  refine Tr.seqI (fun st => ∃ y51, F14_1 k x12 x13 x14 x15 y51 = some r ∧ st = ⟨upd (upd (upd (deadT) 5 (vB y51)) 3 (.pt 300000 0)) 0 (.pt 1000000 0), upd (upd (upd (emptyS) 300000 (some (some (.bx 35 [vI .u32 x12, vI .u32 x13, .sl .e 1000001])))) 1000001 (some (some (.ar 50 2 (x15.map en50))))) 1000000 (some (some (.bx 59 [.t (.sc (.slice none 0 0)), vI .u32 x14]))), 43, [1000000, 1000001]⟩) (by kernel_rfl) ?_ ?_
  · refine Tr.regionN (by kernel_rfl) ?_
    refine TrAt.goS good 8 [(6, .pt 1000000 0), (7, vB false), (8, vB false), (9, .pt 3 0), (10, vI .u32 x12), (11, vB (x12 == 0)), (12, vB (x12 == 0)), (13, vB (x12 == 0))] [] (by kernel_rfl) ?_
    cases g57 : ((x12 == 0) : Bool) with
    | true =>
      have h0 := cond_t g57 h0
      refine TrAt.goS good 6 [(14, .tp []), (15, .tp []), (16, .tp []), (17, .tp []), (18, vB true), (5, vB true)] [] (by kernel_rfl) ?_
      refine TrAt.conv (Conv.normT (keep := [0, 3, 5]) (ρ := [(1000000, 1000000), (1000001, 1000001), (3, 300000)]) ⟨upd (upd (upd (deadT) 5 (vB true)) 3 (.pt 300000 0)) 0 (.pt 1000000 0), upd (upd (upd (emptyS) 300000 (some (some (.bx 35 [vI .u32 x12, vI .u32 x13, .sl .e 1000001])))) 1000001 (some (some (.ar 50 2 (x15.map en50))))) 1000000 (some (some (.bx 59 [.t (.sc (.slice none 0 0)), vI .u32 x14]))), 43, [1000000, 1000001]⟩ (by kernel_rfl)) ?_
      refine TrAt.end_ (by kernel_rfl) ?_
      refine thenI_n ?_
      exact ⟨true, h0, rfl⟩
    | false =>
      have h0 := cond_f g57 h0
      refine TrAt.goS good 2 [(14, .pt 3 2), (15, .sl .e 1000001)] [] (by kernel_rfl) ?_
      refine TrAt.lawP 16 _ _ (by kernel_rfl) (by kernel_rfl) (by kernel_rfl) (by kernel_rfl) (lenSl_ok good (t := 33) (e := 50) (x := .tmp 15) (nl := .e) (enc := en50) (xs := x15) (nm := 1000001) (e' := 50) (sz := 2) (by kernel_rfl) (by kernel_rfl) (by kernel_rfl) (by kernel_rfl)) ?_
      refine TrAt.goS good 3 [(17, vB ((x15.length : Int) == 0)), (18, vB ((x15.length : Int) == 0)), (5, vB ((x15.length : Int) == 0))] [] (by kernel_rfl) ?_
      refine TrAt.conv (Conv.normT (keep := [0, 3, 5]) (ρ := [(1000000, 1000000), (1000001, 1000001), (3, 300000)]) ⟨upd (upd (upd (deadT) 5 (vB ((x15.length : Int) == 0))) 3 (.pt 300000 0)) 0 (.pt 1000000 0), upd (upd (upd (emptyS) 300000 (some (some (.bx 35 [vI .u32 x12, vI .u32 x13, .sl .e 1000001])))) 1000001 (some (some (.ar 50 2 (x15.map en50))))) 1000000 (some (some (.bx 59 [.t (.sc (.slice none 0 0)), vI .u32 x14]))), 43, [1000000, 1000001]⟩ (by kernel_rfl)) ?_
      refine TrAt.end_ (by kernel_rfl) ?_
      refine thenI_n ?_
      exact ⟨((x15.length : Int) == 0), h0, rfl⟩
  · rintro st ⟨y51, h0, rfl⟩
    unfold F14_1 at h0
    refine Tr.condN y51 (by kernel_rfl) (by kernel_rfl) ?_ ?_
    · intro g52
      have h0 := cond_t g52 h0
      refine Tr.seqN (by kernel_rfl) ?_
      refine Tr.regionN (by kernel_rfl) ?_
      refine TrAt.goS good 1 [(4, vI .i64 1)] [] (by kernel_rfl) ?_
      refine TrAt.end_ (by kernel_rfl) ?_
      refine thenQ_n ?_
      refine Tr.conv (Conv.nilBox 1000000 59 [.t (.sc (.slice none 0 0)), vI .u32 x14] 0 200001 35 3 (by kernel_rfl) (by kernel_rfl) (by kernel_rfl) (by kernel_rfl)) ?_
      refine Tr.conv (Conv.normT (keep := [4]) (ρ := [(1000000, 1000000), (1000001, 1000001), (200001, 500000)]) ⟨upd (deadT) 4 (vI .i64 1), upd (upd (upd (emptyS) 500000 (some (some (.ar 35 3 (([]).map en35))))) 1000001 (some (some (.ar 50 2 (x15.map en50))))) 1000000 (some (some (.bx 59 [.sl .n 500000, vI .u32 x14]))), 43, [1000000, 1000001]⟩ (by kernel_rfl)) ?_
      refine Tr.retN (by kernel_rfl) ?_
      refine inBlockQ_r ?_
      refine thenQ_r ?_
      cases h0
      exact finQ_r (by kernel_rfl) (by kernel_rfl)
    · intro g52
      have h0 := cond_f g52 h0
      refine Tr.seqN (by kernel_rfl) ?_
      refine Tr.draws ⟨upd (upd (upd (deadT) 19 (vB (decide (x12 ≤ x14)))) 3 (.pt 300000 0)) 0 (.pt 1000000 0), upd (upd (upd (emptyS) 300000 (some (some (.bx 35 [vI .u32 x12, vI .u32 x13, .sl .e 1000001])))) 1000001 (some (some (.ar 50 2 (x15.map en50))))) 1000000 (some (some (.bx 59 [.t (.sc (.slice none 0 0)), vI .u32 x14]))), 43, [1000000, 1000001]⟩ [.pt 300000 0, vI .u32 x12, .pt 1000000 0, .pt 1000000 0, .pt 1000000 1, vI .u32 x14, vB (decide (x12 ≤ x14)), vB (decide (x12 ≤ x14))] [] [] [(0, 0), (1, 0), (2, 0), (3, 0), (4, 0), (5, 0), (6, 0), (7, 0)] (by kernel_rfl) (by kernel_rfl) (by kernel_rfl) ⟨OpLaw.step good (by kernel_rfl), OpLaw.step good (by kernel_rfl), OpLaw.step good (by kernel_rfl), OpLaw.step good (by kernel_rfl), OpLaw.step good (by kernel_rfl), OpLaw.step good (by kernel_rfl), OpLaw.step good (by kernel_rfl), OpLaw.step good (by kernel_rfl), trivial⟩ (Conv.normT (keep := [0, 3, 19]) (ρ := [(1000000, 1000000), (1000001, 1000001), (300000, 300000)]) ⟨upd (upd (upd (deadT) 19 (vB (decide (x12 ≤ x14)))) 3 (.pt 300000 0)) 0 (.pt 1000000 0), upd (upd (upd (emptyS) 300000 (some (some (.bx 35 [vI .u32 x12, vI .u32 x13, .sl .e 1000001])))) 1000001 (some (some (.ar 50 2 (x15.map en50))))) 1000000 (some (some (.bx 59 [.t (.sc (.slice none 0 0)), vI .u32 x14]))), 43, [1000000, 1000001]⟩ (by kernel_rfl)) ?_
      refine thenQ_n ?_
      refine Tr.condN (decide (x12 ≤ x14)) (by kernel_rfl) (by kernel_rfl) ?_ ?_
      · intro g53
        have h0 := cond_t g53 h0
        refine Tr.seqN (by kernel_rfl) ?_
        refine Tr.regionN (by kernel_rfl) ?_
        refine TrAt.goS good 1 [(4, vI .i64 7)] [] (by kernel_rfl) ?_
        refine TrAt.end_ (by kernel_rfl) ?_
        refine thenQ_n ?_
        refine Tr.conv (Conv.nilBox 1000000 59 [.t (.sc (.slice none 0 0)), vI .u32 x14] 0 200002 35 3 (by kernel_rfl) (by kernel_rfl) (by kernel_rfl) (by kernel_rfl)) ?_
        refine Tr.conv (Conv.normT (keep := [4]) (ρ := [(1000000, 1000000), (1000001, 1000001), (200002, 500000)]) ⟨upd (deadT) 4 (vI .i64 7), upd (upd (upd (emptyS) 500000 (some (some (.ar 35 3 (([]).map en35))))) 1000001 (some (some (.ar 50 2 (x15.map en50))))) 1000000 (some (some (.bx 59 [.sl .n 500000, vI .u32 x14]))), 43, [1000000, 1000001]⟩ (by kernel_rfl)) ?_
        refine Tr.retN (by kernel_rfl) ?_
        refine inBlockQ_r ?_
        refine thenQ_r ?_
        cases h0
        exact finQ_r (by kernel_rfl) (by kernel_rfl)
      · intro g53
        have h0 := cond_f g53 h0
        refine Tr.skipN (by kernel_rfl) ?_
        refine inBlockQ_n ?_
        refine thenQ_n ?_
        refine Tr.seqN (by kernel_rfl) ?_
        obtain ⟨y54, h55, h0⟩ := bind_out h0
        obtain ⟨g56, h0⟩ := grd_out h0
        refine Tr.draws ⟨deadT, upd (upd (upd (emptyS) 300000 (some (some (.ar 35 3 ((([] : List E35) ++ ([(E35.mk x12 x13 (([] : List E50) ++ x15))])).map en35))))) 1000001 (some (some (.ar 50 2 (x15.map en50))))) 1000000 (some (some (.bx 59 [.sl .n 300000, vI .u32 x12]))), 43, [1000000, 1000001]⟩ [.pt 1000000 0, .pt 1000000 0, .pt 1000000 0, .pt 1000000 0, .pt 1000000 0, .t (.sc (.slice none 0 0)), .ag [vI .u32 x12, vI .u32 x13, .sl .e 1000001], .ag [vI .u32 x12, vI .u32 x13, .t (.fz .u ((([] : List E50) ++ x15).map en50))], .sl .e 35, .sl .n 36, .pt 300000 0, vI .u32 x12, .pt 1000000 0, .pt 1000000 0, .tp [], .pt 1000000 0, .pt 1000000 1, .tp []] [fun s => backS [(1000000, 1000001), (500000, 400680)] (upd (upd (emptyS) 500000 (some (some (.bx 35 [vI .u32 x12, vI .u32 x13, .t (.fz .u ((([] : List E50) ++ x15).map en50))])))) 1000000 (some (some (.ar 50 2 (x15.map en50))))) s, fun s => upd s 35 (some (some (.ar 35 3 (([(E35.mk x12 x13 (([] : List E50) ++ x15))]).map en35)))), fun s => upd (killS s none) 36 (some (some (.ar 35 3 ((([] : List E35) ++ ([(E35.mk x12 x13 (([] : List E50) ++ x15))])).map en35)))), fun s => upd s 1000000 (some (some (.bx 59 [.sl .n 36, vI .u32 x14]))), fun s => upd s 1000000 (some (some (.bx 59 [.sl .n 36, vI .u32 x12])))] [7, 8, 9, 14, 17] [(0, 0), (0, 1), (0, 2), (0, 3), (1, 0), (1, 1), (1, 2), (1, 3), (1, 4), (2, 0), (2, 1), (2, 2), (2, 3), (3, 0), (3, 1), (3, 2), (3, 3), (4, 0), (4, 1), (4, 2), (4, 3), (5, 0), (5, 1), (5, 2), (6, 0), (7, 0), (8, 1), (9, 2), (10, 0), (10, 1), (10, 2), (10, 3), (10, 4), (11, 0), (11, 1), (11, 2), (11, 3), (11, 4), (12, 3), (12, 4), (13, 3), (14, 3), (15, 4), (15, 5), (16, 4), (17, 4)] (by kernel_rfl) (by kernel_rfl) (by kernel_rfl) ⟨OpLaw.step good (by kernel_rfl), OpLaw.step good (by kernel_rfl), OpLaw.step good (by kernel_rfl), OpLaw.step good (by kernel_rfl), OpLaw.step good (by kernel_rfl), OpLaw.step good (by kernel_rfl), OpLaw.step good (by kernel_rfl), OpLaw.step good (by kernel_rfl), OpLaw.step good (by kernel_rfl), OpLaw.step good (by kernel_rfl), OpLaw.step good (by kernel_rfl), OpLaw.step good (by kernel_rfl), OpLaw.step good (by kernel_rfl), OpLaw.step good (by kernel_rfl), OpLaw.step good (by kernel_rfl), OpLaw.step good (by kernel_rfl), OpLaw.step good (by kernel_rfl), OpLaw.step good (by kernel_rfl), OpLaw.step good (by kernel_rfl), OpLaw.step good (by kernel_rfl), OpLaw.step good (by kernel_rfl), OpLaw.step good (by kernel_rfl), OpLaw.step good (by kernel_rfl), OpLaw.step good (by kernel_rfl), OpLaw.step good (by kernel_rfl), OpLaw.callD (caps := []) [(1000000, 1000001)] [(500000, 400680)] (.func 26) #[.tmp 33] #[35] (ct_F26 k x12 x13 x15 y54 h55) Try.func26 (by kernel_rfl) (by kernel_rfl) (by kernel_rfl) (by kernel_rfl) (by kernel_rfl) (by kernel_rfl) (by kernel_rfl) (by kernel_rfl) (by kernel_rfl) (by kernel_rfl) (by kernel_rfl) (by kernel_rfl) (by kernel_rfl), OpLaw.ok (v' := .sl .e 35) (by kernel_rfl) (by kernel_rfl) (by kernel_rfl) (bsP_ok good (t := 44) (e := 35) (d := 35) (len := 1) (parts := #[(0, .tmp 34)]) (rows := ([(E35.mk x12 x13 (([] : List E50) ++ x15))]).map en35) (by kernel_rfl) (by kernel_rfl) (by kernel_rfl) (by kernel_rfl) (by kernel_rfl) (by kernel_rfl)), OpLaw.ok (v' := .sl .n 36) (by kernel_rfl) (by kernel_rfl) (by kernel_rfl) (apP_ok good (x := .tmp 32) (y := .tmp 35) (t := 44) (e := 35) (d := 36) (nl := .n) (enc := en35) (xs := ([] : List E35)) (ys := [(E35.mk x12 x13 (([] : List E50) ++ x15))]) (oo := none) (bz := 32) (by kernel_rfl) (by kernel_rfl) (by kernel_rfl) (by kernel_rfl) (by kernel_rfl) (by kernel_rfl) wide35 (by kernel_rfl) g56), OpLaw.step good (by kernel_rfl), OpLaw.step good (by kernel_rfl), OpLaw.step good (by kernel_rfl), OpLaw.step good (by kernel_rfl), OpLaw.step good (by kernel_rfl), OpLaw.step good (by kernel_rfl), OpLaw.step good (by kernel_rfl), OpLaw.step good (by kernel_rfl), OpLaw.step good (by kernel_rfl), OpLaw.step good (by kernel_rfl), OpLaw.step good (by kernel_rfl), OpLaw.step good (by kernel_rfl), OpLaw.step good (by kernel_rfl), OpLaw.step good (by kernel_rfl), OpLaw.step good (by kernel_rfl), OpLaw.step good (by kernel_rfl), OpLaw.step good (by kernel_rfl), OpLaw.step good (by kernel_rfl), trivial⟩ (Conv.normT (keep := []) (ρ := [(1000000, 1000000), (1000001, 1000001), (36, 300000)]) ⟨deadT, upd (upd (upd (emptyS) 300000 (some (some (.ar 35 3 ((([] : List E35) ++ ([(E35.mk x12 x13 (([] : List E50) ++ x15))])).map en35))))) 1000001 (some (some (.ar 50 2 (x15.map en50))))) 1000000 (some (some (.bx 59 [.sl .n 300000, vI .u32 x12]))), 43, [1000000, 1000001]⟩ (by kernel_rfl)) ?_
        refine thenQ_n ?_
        refine Tr.seqN (by kernel_rfl) ?_
        refine Tr.regionN (by kernel_rfl) ?_
        refine TrAt.goS good 1 [(4, vI .i64 0)] [] (by kernel_rfl) ?_
        refine TrAt.end_ (by kernel_rfl) ?_
        refine thenQ_n ?_
        refine Tr.conv (Conv.normT (keep := [4]) (ρ := [(1000000, 1000000), (1000001, 1000001), (300000, 500000)]) ⟨upd (deadT) 4 (vI .i64 0), upd (upd (upd (emptyS) 500000 (some (some (.ar 35 3 ((([] : List E35) ++ ([(E35.mk x12 x13 (([] : List E50) ++ x15))])).map en35))))) 1000001 (some (some (.ar 50 2 (x15.map en50))))) 1000000 (some (some (.bx 59 [.sl .n 500000, vI .u32 x12]))), 43, [1000000, 1000001]⟩ (by kernel_rfl)) ?_
        refine Tr.retN (by kernel_rfl) ?_
        cases h0
        exact finQ_r (by kernel_rfl) (by kernel_rfl)
def F14_v1_1 (k : Nat) (x62 : Int) (x63 : Int) (x64 : Int) (x65 : (List E50)) (x66 : (List E35)) (y89 : Bool) : Option (Int × Int × (List E35)) :=
  cond y89 (some (1, x64, x66)) (cond (decide (x62 ≤ x64)) (some (7, x64, x66)) ((F26 k x62 x63 x65).bind fun y92 =>
  grd (decide ((x66.length + ([(E35.mk x62 x63 (([] : List E50) ++ x65))]).length) * 32 ≤ 140737488355328)) <|
  some (0, x62, (x66 ++ ([(E35.mk x62 x63 (([] : List E50) ++ x65))])))))
def F14_v1 (k : Nat) (x62 : Int) (x63 : Int) (x64 : Int) (x65 : (List E50)) (x66 : (List E35)) : Option (Int × Int × (List E35)) :=
  cond (x62 == 0) (F14_v1_1 k x62 x63 x64 x65 x66 true) (F14_v1_1 k x62 x63 x64 x65 x66 ((x65.length : Int) == 0))
theorem ct_F14_v1 (k : Nat) (x62 : Int) (x63 : Int) (x64 : Int) (x65 : (List E50)) (x66 : (List E35)) (r : (Int × Int × (List E35))) (h0 : F14_v1 k x62 x63 x64 x65 x66 = some r) : CTd Try.prog 14 [.pt 1000000 0, .ag [vI .u32 x62, vI .u32 x63, .sl .e 1000001]] [(1000000, .bx 59 [.sl .n 1000002, vI .u32 x64]), (1000001, .ar 50 2 (x65.map en50)), (1000002, .ar 35 3 (x66.map en35))] (vI .i64 r.1) (upd (upd (upd (upd (emptyS) 500000 (some (some (.ar 35 3 (r.2.2.map en35))))) 1000002 (some none)) 1000001 (some (some (.ar 50 2 (x65.map en50))))) 1000000 (some (some (.bx 59 [.sl .n 500000, vI .u32 r.2.1])))) := by
  refine CTd.of_tr Try.f14 Try.func14 (by kernel_rfl) ?_
  unfold F14_v1 at h0
  refine Tr.conv (Conv.normT (keep := [0, 1]) (ρ := [(1000000, 1000000), (1000001, 1000001), (1000002, 1000002)]) ⟨upd (upd (deadT) 1 (.ag [vI .u32 x62, vI .u32 x63, .sl .e 1000001])) 0 (.pt 1000000 0), upd (upd (upd (emptyS) 1000002 (some (some (.ar 35 3 (x66.map en35))))) 1000001 (some (some (.ar 50 2 (x65.map en50))))) 1000000 (some (some (.bx 59 [.sl .n 1000002, vI .u32 x64]))), 43, [1000000, 1000001, 1000002]⟩ (by kernel_rfl)) ?_
  refine Tr.seqN (by kernel_rfl) ?_
  refine Tr.regionN (by kernel_rfl) ?_
  refine TrAt.goS good 2 [(3, .pt 3 0), (4, vI .i64 0)] [(3, .bx 35 [vI .u32 x62, vI .u32 x63, .sl .e 1000001])] (by kernel_rfl) ?_
  refine TrAt.end_ (by kernel_rfl) ?_
  refine thenQ_n ?_
  refine Tr.seqN (by kernel_rfl) ?_
  refine Tr.blockN (by kernel_rfl) ?_
  refine Tr.seqI (fun st => ∃ y89, F14_v1_1 k x62 x63 x64 x65 x66 y89 = some r ∧ st = ⟨upd (upd (upd (deadT) 5 (vB y89)) 3 (.pt 300000 0)) 0 (.pt 1000000 0), upd (upd (upd (upd (emptyS) 300000 (some (some (.bx 35 [vI .u32 x62, vI .u32 x63, .sl .e 1000001])))) 1000002 (some (some (.ar 35 3 (x66.map en35))))) 1000001 (some (some (.ar 50 2 (x65.map en50))))) 1000000 (some (some (.bx 59 [.sl .n 1000002, vI .u32 x64]))), 43, [1000000, 1000001, 1000002]⟩) (by kernel_rfl) ?_ ?_
  · refine Tr.regionN (by kernel_rfl) ?_
    refine TrAt.goS good 8 [(6, .pt 1000000 0), (7, vB false), (8, vB false), (9, .pt 3 0), (10, vI .u32 x62), (11, vB (x62 == 0)), (12, vB (x62 == 0)), (13, vB (x62 == 0))] [] (by kernel_rfl) ?_
    cases g95 : ((x62 == 0) : Bool) with
    | true =>
      have h0 := cond_t g95 h0
      refine TrAt.goS good 6 [(14, .tp []), (15, .tp []), (16, .tp []), (17, .tp []), (18, vB true), (5, vB true)] [] (by kernel_rfl) ?_
      refine TrAt.conv (Conv.normT (keep := [0, 3, 5]) (ρ := [(1000000, 1000000), (1000001, 1000001), (1000002, 1000002), (3, 300000)]) ⟨upd (upd (upd (deadT) 5 (vB true)) 3 (.pt 300000 0)) 0 (.pt 1000000 0), upd (upd (upd (upd (emptyS) 300000 (some (some (.bx 35 [vI .u32 x62, vI .u32 x63, .sl .e 1000001])))) 1000002 (some (some (.ar 35 3 (x66.map en35))))) 1000001 (some (some (.ar 50 2 (x65.map en50))))) 1000000 (some (some (.bx 59 [.sl .n 1000002, vI .u32 x64]))), 43, [1000000, 1000001, 1000002]⟩ (by kernel_rfl)) ?_
      refine TrAt.end_ (by kernel_rfl) ?_
      refine thenI_n ?_
      exact ⟨true, h0, rfl⟩
    | false =>
      have h0 := cond_f g95 h0
      refine TrAt.goS good 2 [(14, .pt 3 2), (15, .sl .e 1000001)] [] (by kernel_rfl) ?_
      refine TrAt.lawP 16 _ _ (by kernel_rfl) (by kernel_rfl) (by kernel_rfl) (by kernel_rfl) (lenSl_ok good (t := 33) (e := 50) (x := .tmp 15) (nl := .e) (enc := en50) (xs := x65) (nm := 1000001) (e' := 50) (sz := 2) (by kernel_rfl) (by kernel_rfl) (by kernel_rfl) (by kernel_rfl)) ?_
      refine TrAt.goS good 3 [(17, vB ((x65.length : Int) == 0)), (18, vB ((x65.length : Int) == 0)), (5, vB ((x65.length : Int) == 0))] [] (by kernel_rfl) ?_
      refine TrAt.conv (Conv.normT (keep := [0, 3, 5]) (ρ := [(1000000, 1000000), (1000001, 1000001), (1000002, 1000002), (3, 300000)]) ⟨upd (upd (upd (deadT) 5 (vB ((x65.length : Int) == 0))) 3 (.pt 300000 0)) 0 (.pt 1000000 0), upd (upd (upd (upd (emptyS) 300000 (some (some (.bx 35 [vI .u32 x62, vI .u32 x63, .sl .e 1000001])))) 1000002 (some (some (.ar 35 3 (x66.map en35))))) 1000001 (some (some (.ar 50 2 (x65.map en50))))) 1000000 (some (some (.bx 59 [.sl .n 1000002, vI .u32 x64]))), 43, [1000000, 1000001, 1000002]⟩ (by kernel_rfl)) ?_
      refine TrAt.end_ (by kernel_rfl) ?_
      refine thenI_n ?_
      exact ⟨((x65.length : Int) == 0), h0, rfl⟩
  · rintro st ⟨y89, h0, rfl⟩
    unfold F14_v1_1 at h0
    refine Tr.condN y89 (by kernel_rfl) (by kernel_rfl) ?_ ?_
    · intro g90
      have h0 := cond_t g90 h0
      refine Tr.seqN (by kernel_rfl) ?_
      refine Tr.regionN (by kernel_rfl) ?_
      refine TrAt.goS good 1 [(4, vI .i64 1)] [] (by kernel_rfl) ?_
      refine TrAt.end_ (by kernel_rfl) ?_
      refine thenQ_n ?_
      refine Tr.conv (Conv.move 1000002 200003 (by kernel_rfl) (by kernel_rfl)) ?_
      refine Tr.conv (Conv.normT (keep := [4]) (ρ := [(1000000, 1000000), (1000001, 1000001), (1000002, 1000002), (200003, 500000)]) ⟨upd (deadT) 4 (vI .i64 1), upd (upd (upd (upd (emptyS) 500000 (some (some (.ar 35 3 (x66.map en35))))) 1000002 (some none)) 1000001 (some (some (.ar 50 2 (x65.map en50))))) 1000000 (some (some (.bx 59 [.sl .n 500000, vI .u32 x64]))), 43, [1000000, 1000001, 1000002]⟩ (by kernel_rfl)) ?_
      refine Tr.retN (by kernel_rfl) ?_
      refine inBlockQ_r ?_
      refine thenQ_r ?_
      cases h0
      exact finQ_r (by kernel_rfl) (by kernel_rfl)
    · intro g90
      have h0 := cond_f g90 h0
      refine Tr.seqN (by kernel_rfl) ?_
      refine Tr.draws ⟨upd (upd (upd (deadT) 19 (vB (decide (x62 ≤ x64)))) 3 (.pt 300000 0)) 0 (.pt 1000000 0), upd (upd (upd (upd (emptyS) 300000 (some (some (.bx 35 [vI .u32 x62, vI .u32 x63, .sl .e 1000001])))) 1000002 (some (some (.ar 35 3 (x66.map en35))))) 1000001 (some (some (.ar 50 2 (x65.map en50))))) 1000000 (some (some (.bx 59 [.sl .n 1000002, vI .u32 x64]))), 43, [1000000, 1000001, 1000002]⟩ [.pt 300000 0, vI .u32 x62, .pt 1000000 0, .pt 1000000 0, .pt 1000000 1, vI .u32 x64, vB (decide (x62 ≤ x64)), vB (decide (x62 ≤ x64))] [] [] [(0, 0), (1, 0), (2, 0), (3, 0), (4, 0), (5, 0), (6, 0), (7, 0)] (by kernel_rfl) (by kernel_rfl) (by kernel_rfl) ⟨OpLaw.step good (by kernel_rfl), OpLaw.step good (by kernel_rfl), OpLaw.step good (by kernel_rfl), OpLaw.step good (by kernel_rfl), OpLaw.step good (by kernel_rfl), OpLaw.step good (by kernel_rfl), OpLaw.step good (by kernel_rfl), OpLaw.step good (by kernel_rfl), trivial⟩ (Conv.normT (keep := [0, 3, 19]) (ρ := [(1000000, 1000000), (1000001, 1000001), (1000002, 1000002), (300000, 300000)]) ⟨upd (upd (upd (deadT) 19 (vB (decide (x62 ≤ x64)))) 3 (.pt 300000 0)) 0 (.pt 1000000 0), upd (upd (upd (upd (emptyS) 300000 (some (some (.bx 35 [vI .u32 x62, vI .u32 x63, .sl .e 1000001])))) 1000002 (some (some (.ar 35 3 (x66.map en35))))) 1000001 (some (some (.ar 50 2 (x65.map en50))))) 1000000 (some (some (.bx 59 [.sl .n 1000002, vI .u32 x64]))), 43, [1000000, 1000001, 1000002]⟩ (by kernel_rfl)) ?_
      refine thenQ_n ?_
      refine Tr.condN (decide (x62 ≤ x64)) (by kernel_rfl) (by kernel_rfl) ?_ ?_
      · intro g91
        have h0 := cond_t g91 h0
        refine Tr.seqN (by kernel_rfl) ?_
        refine Tr.regionN (by kernel_rfl) ?_
        refine TrAt.goS good 1 [(4, vI .i64 7)] [] (by kernel_rfl) ?_
        refine TrAt.end_ (by kernel_rfl) ?_
        refine thenQ_n ?_
        refine Tr.conv (Conv.move 1000002 200004 (by kernel_rfl) (by kernel_rfl)) ?_
        refine Tr.conv (Conv.normT (keep := [4]) (ρ := [(1000000, 1000000), (1000001, 1000001), (1000002, 1000002), (200004, 500000)]) ⟨upd (deadT) 4 (vI .i64 7), upd (upd (upd (upd (emptyS) 500000 (some (some (.ar 35 3 (x66.map en35))))) 1000002 (some none)) 1000001 (some (some (.ar 50 2 (x65.map en50))))) 1000000 (some (some (.bx 59 [.sl .n 500000, vI .u32 x64]))), 43, [1000000, 1000001, 1000002]⟩ (by kernel_rfl)) ?_
        refine Tr.retN (by kernel_rfl) ?_
        refine inBlockQ_r ?_
        refine thenQ_r ?_
        cases h0
        exact finQ_r (by kernel_rfl) (by kernel_rfl)
      · intro g91
        have h0 := cond_f g91 h0
        refine Tr.skipN (by kernel_rfl) ?_
        refine inBlockQ_n ?_
        refine thenQ_n ?_
        refine Tr.seqN (by kernel_rfl) ?_
        obtain ⟨y92, h93, h0⟩ := bind_out h0
        obtain ⟨g94, h0⟩ := grd_out h0
        refine Tr.draws ⟨deadT, upd (upd (upd (upd (emptyS) 300000 (some (some (.ar 35 3 ((x66 ++ ([(E35.mk x62 x63 (([] : List E50) ++ x65))])).map en35))))) 1000002 (some none)) 1000001 (some (some (.ar 50 2 (x65.map en50))))) 1000000 (some (some (.bx 59 [.sl .n 300000, vI .u32 x62]))), 43, [1000000, 1000001, 1000002]⟩ [.pt 1000000 0, .pt 1000000 0, .pt 1000000 0, .pt 1000000 0, .pt 1000000 0, .sl .n 1000002, .ag [vI .u32 x62, vI .u32 x63, .sl .e 1000001], .ag [vI .u32 x62, vI .u32 x63, .t (.fz .u ((([] : List E50) ++ x65).map en50))], .sl .e 35, .sl .n 36, .pt 300000 0, vI .u32 x62, .pt 1000000 0, .pt 1000000 0, .tp [], .pt 1000000 0, .pt 1000000 1, .tp []] [fun s => backS [(1000000, 1000001), (500000, 400680)] (upd (upd (emptyS) 500000 (some (some (.bx 35 [vI .u32 x62, vI .u32 x63, .t (.fz .u ((([] : List E50) ++ x65).map en50))])))) 1000000 (some (some (.ar 50 2 (x65.map en50))))) s, fun s => upd s 35 (some (some (.ar 35 3 (([(E35.mk x62 x63 (([] : List E50) ++ x65))]).map en35)))), fun s => upd (killS s (some 1000002)) 36 (some (some (.ar 35 3 ((x66 ++ ([(E35.mk x62 x63 (([] : List E50) ++ x65))])).map en35)))), fun s => upd s 1000000 (some (some (.bx 59 [.sl .n 36, vI .u32 x64]))), fun s => upd s 1000000 (some (some (.bx 59 [.sl .n 36, vI .u32 x62])))] [7, 8, 9, 14, 17] [(0, 0), (0, 1), (0, 2), (0, 3), (1, 0), (1, 1), (1, 2), (1, 3), (1, 4), (2, 0), (2, 1), (2, 2), (2, 3), (3, 0), (3, 1), (3, 2), (3, 3), (4, 0), (4, 1), (4, 2), (4, 3), (5, 0), (5, 1), (5, 2), (6, 0), (7, 0), (8, 1), (9, 2), (10, 0), (10, 1), (10, 2), (10, 3), (10, 4), (11, 0), (11, 1), (11, 2), (11, 3), (11, 4), (12, 3), (12, 4), (13, 3), (14, 3), (15, 4), (15, 5), (16, 4), (17, 4)] (by kernel_rfl) (by kernel_rfl) (by kernel_rfl) ⟨OpLaw.step good (by kernel_rfl), OpLaw.step good (by kernel_rfl), OpLaw.step good (by kernel_rfl), OpLaw.step good (by kernel_rfl), OpLaw.step good (by kernel_rfl), OpLaw.step good (by kernel_rfl), OpLaw.step good (by kernel_rfl), OpLaw.step good (by kernel_rfl), OpLaw.step good (by kernel_rfl), OpLaw.step good (by kernel_rfl), OpLaw.step good (by kernel_rfl), OpLaw.step good (by kernel_rfl), OpLaw.step good (by kernel_rfl), OpLaw.step good (by kernel_rfl), OpLaw.step good (by kernel_rfl), OpLaw.step good (by kernel_rfl), OpLaw.step good (by kernel_rfl), OpLaw.step good (by kernel_rfl), OpLaw.step good (by kernel_rfl), OpLaw.step good (by kernel_rfl), OpLaw.step good (by kernel_rfl), OpLaw.step good (by kernel_rfl), OpLaw.step good (by kernel_rfl), OpLaw.step good (by kernel_rfl), OpLaw.step good (by kernel_rfl), OpLaw.callD (caps := []) [(1000000, 1000001)] [(500000, 400680)] (.func 26) #[.tmp 33] #[35] (ct_F26 k x62 x63 x65 y92 h93) Try.func26 (by kernel_rfl) (by kernel_rfl) (by kernel_rfl) (by kernel_rfl) (by kernel_rfl) (by kernel_rfl) (by kernel_rfl) (by kernel_rfl) (by kernel_rfl) (by kernel_rfl) (by kernel_rfl) (by kernel_rfl) (by kernel_rfl), OpLaw.ok (v' := .sl .e 35) (by kernel_rfl) (by kernel_rfl) (by kernel_rfl) (bsP_ok good (t := 44) (e := 35) (d := 35) (len := 1) (parts := #[(0, .tmp 34)]) (rows := ([(E35.mk x62 x63 (([] : List E50) ++ x65))]).map en35) (by kernel_rfl) (by kernel_rfl) (by kernel_rfl) (by kernel_rfl) (by kernel_rfl) (by kernel_rfl)), OpLaw.ok (v' := .sl .n 36) (by kernel_rfl) (by kernel_rfl) (by kernel_rfl) (apP_ok good (x := .tmp 32) (y := .tmp 35) (t := 44) (e := 35) (d := 36) (nl := .n) (enc := en35) (xs := x66) (ys := [(E35.mk x62 x63 (([] : List E50) ++ x65))]) (oo := (some 1000002)) (bz := 32) (by kernel_rfl) (by kernel_rfl) (by kernel_rfl) (by kernel_rfl) (by kernel_rfl) (by kernel_rfl) wide35 (by kernel_rfl) g94), OpLaw.step good (by kernel_rfl), OpLaw.step good (by kernel_rfl), OpLaw.step good (by kernel_rfl), OpLaw.step good (by kernel_rfl), OpLaw.step good (by kernel_rfl), OpLaw.step good (by kernel_rfl), OpLaw.step good (by kernel_rfl), OpLaw.step good (by kernel_rfl), OpLaw.step good (by kernel_rfl), OpLaw.step good (by kernel_rfl), OpLaw.step good (by kernel_rfl), OpLaw.step good (by kernel_rfl), OpLaw.step good (by kernel_rfl), OpLaw.step good (by kernel_rfl), OpLaw.step good (by kernel_rfl), OpLaw.step good (by kernel_rfl), OpLaw.step good (by kernel_rfl), OpLaw.step good (by kernel_rfl), trivial⟩ (Conv.normT (keep := []) (ρ := [(1000000, 1000000), (1000001, 1000001), (1000002, 1000002), (36, 300000)]) ⟨deadT, upd (upd (upd (upd (emptyS) 300000 (some (some (.ar 35 3 ((x66 ++ ([(E35.mk x62 x63 (([] : List E50) ++ x65))])).map en35))))) 1000002 (some none)) 1000001 (some (some (.ar 50 2 (x65.map en50))))) 1000000 (some (some (.bx 59 [.sl .n 300000, vI .u32 x62]))), 43, [1000000, 1000001, 1000002]⟩ (by kernel_rfl)) ?_
        refine thenQ_n ?_
        refine Tr.seqN (by kernel_rfl) ?_
        refine Tr.regionN (by kernel_rfl) ?_
        refine TrAt.goS good 1 [(4, vI .i64 0)] [] (by kernel_rfl) ?_
        refine TrAt.end_ (by kernel_rfl) ?_
        refine thenQ_n ?_
        refine Tr.conv (Conv.normT (keep := [4]) (ρ := [(1000000, 1000000), (1000001, 1000001), (1000002, 1000002), (300000, 500000)]) ⟨upd (deadT) 4 (vI .i64 0), upd (upd (upd (upd (emptyS) 500000 (some (some (.ar 35 3 ((x66 ++ ([(E35.mk x62 x63 (([] : List E50) ++ x65))])).map en35))))) 1000002 (some none)) 1000001 (some (some (.ar 50 2 (x65.map en50))))) 1000000 (some (some (.bx 59 [.sl .n 500000, vI .u32 x62]))), 43, [1000000, 1000001, 1000002]⟩ (by kernel_rfl)) ?_
        refine Tr.retN (by kernel_rfl) ?_
        cases h0
        exact finQ_r (by kernel_rfl) (by kernel_rfl)
def F25 (k : Nat) (x123 : Int) (x124 : Int) (x125 : Int) : Option Unit :=
  some ()
theorem ct_F25 (k : Nat) (x123 : Int) (x124 : Int) (x125 : Int) (r : Unit) (h0 : F25 k x123 x124 x125 = some r) : CTd Try.prog 25 [.ag [vI .i64 x123, vI .i64 x124], .pt 1000000 0] [(1000000, .bx 3 [vI .i64 x125])] (vB (x123 == x125)) (upd (emptyS) 1000000 (some (some (.bx 3 [vI .i64 x125])))) := by
  refine CTd.of_tr Try.f25 Try.func25 (by kernel_rfl) ?_
  unfold F25 at h0
  refine Tr.conv (Conv.normT (keep := [0, 1]) (ρ := [(1000000, 1000000)]) ⟨upd (upd (deadT) 1 (.pt 1000000 0)) 0 (.ag [vI .i64 x123, vI .i64 x124]), upd (emptyS) 1000000 (some (some (.bx 3 [vI .i64 x125]))), 8, [1000000]⟩ (by kernel_rfl)) ?_
  refine Tr.seqN (by kernel_rfl) ?_
  refine Tr.regionN (by kernel_rfl) ?_
  refine TrAt.goS good 2 [(2, .pt 2 0), (3, vB false)] [(2, .bx 50 [vI .i64 x123, vI .i64 x124])] (by kernel_rfl) ?_
  refine TrAt.end_ (by kernel_rfl) ?_
  refine thenQ_n ?_
  refine Tr.seqN (by kernel_rfl) ?_
  refine Tr.regionN (by kernel_rfl) ?_
  refine TrAt.goS good 5 [(4, .pt 2 0), (5, vI .i64 x123), (6, vI .i64 x125), (7, vB (x123 == x125)), (3, vB (x123 == x125))] [] (by kernel_rfl) ?_
  refine TrAt.end_ (by kernel_rfl) ?_
  refine thenQ_n ?_
  refine Tr.conv (Conv.normT (keep := [3]) (ρ := [(1000000, 1000000)]) ⟨upd (deadT) 3 (vB (x123 == x125)), upd (emptyS) 1000000 (some (some (.bx 3 [vI .i64 x125]))), 8, [1000000]⟩ (by kernel_rfl)) ?_
  refine Tr.retN (by kernel_rfl) ?_
  cases h0
  exact finQ_r (by kernel_rfl) (by kernel_rfl)
def F29_1 (k : Nat) (y462 : Unit) : Option Int :=
  some (-1)
def F29_2 (k : Nat) (x115 : (List E50)) (x116 : Int) : Nat → Int → Option (Sum Int Unit)
  | 0, _ => none
  | n464+1, y429 =>
    cond (decide (y429 < (x115.length : Int))) ((ix x115 y429).bind fun x466 =>
    (F25 k x466.f0 x466.f1 x116).bind fun y470 =>
    cond (x466.f0 == x116) (some (Sum.inl y429)) ((F29_2 k x115 x116 n464) (IntKind.wrap .i64 (y429 + 1)))) (some (Sum.inr ()))
def F29 (k : Nat) (x115 : (List E50)) (x116 : Int) : Option Int :=
  (F29_2 k x115 x116 k 0).bind fun z => match z with
    | (Sum.inl y461) => some y461
    | (Sum.inr y462) => F29_1 k y462
theorem ct_F29 (k : Nat) (x115 : (List E50)) (x116 : Int) (r : Int) (h0 : F29 k x115 x116 = some r) : CTd Try.prog 29 [.t (.fz .u (x115.map en50)), .fn 25 [.pt 1000000 0]] [(1000000, .bx 3 [vI .i64 x116])] (vI .i64 r) (upd (emptyS) 1000000 (some (some (.bx 3 [vI .i64 x116])))) := by
  refine CTd.of_tr Try.f29 Try.func29 (by kernel_rfl) ?_
  unfold F29 at h0
  refine Tr.conv (Conv.normT (keep := [0, 1]) (ρ := [(1000000, 1000000)]) ⟨upd (upd (deadT) 1 (.fn 25 [.pt 1000000 0])) 0 (.t (.fz .u (x115.map en50))), upd (emptyS) 1000000 (some (some (.bx 3 [vI .i64 x116]))), 19, [1000000]⟩ (by kernel_rfl)) ?_
  refine Tr.seqN (by kernel_rfl) ?_
  refine Tr.regionN (by kernel_rfl) ?_
  refine TrAt.goS good 1 [(4, vI .i64 0)] [] (by kernel_rfl) ?_
  refine TrAt.end_ (by kernel_rfl) ?_
  refine thenQ_n ?_
  refine Tr.seqN (by kernel_rfl) ?_
  refine Tr.seqN (by kernel_rfl) ?_
  refine Tr.regionN (by kernel_rfl) ?_
  refine TrAt.goS good 1 [(6, .t (.fz .u (x115.map en50)))] [] (by kernel_rfl) ?_
  refine TrAt.lawP 7 _ _ (by kernel_rfl) (by kernel_rfl) (by kernel_rfl) (by kernel_rfl) (lenFz_ok good (t := 33) (e := 50) (x := .tmp 6) (nl := .u) (enc := en50) (xs := x115) (by kernel_rfl) (by kernel_rfl) (by kernel_rfl)) ?_
  refine TrAt.goS good 1 [(8, vI .i64 0)] [] (by kernel_rfl) ?_
  refine TrAt.end_ (by kernel_rfl) ?_
  refine thenQ_n ?_
  refine Tr.blockN (by kernel_rfl) ?_
  obtain ⟨y459, h460, h0⟩ := bind_out h0
  refine Tr.conv (Conv.normT (keep := [0, 1, 7, 8]) (ρ := [(1000000, 1000000)]) ⟨upd (upd (upd (upd (deadT) 8 (vI .i64 0)) 7 (vI .i64 (x115.length : Int))) 1 (.fn 25 [.pt 1000000 0])) 0 (.t (.fz .u (x115.map en50))), upd (emptyS) 1000000 (some (some (.bx 3 [vI .i64 x116]))), 19, [1000000]⟩ (by kernel_rfl)) ?_
  refine Tr.retJoin (fun st => ∃ y461 : Int, y459 = (Sum.inl y461) ∧ st = ⟨upd (deadT) 4 (vI .i64 y461), upd (emptyS) 1000000 (some (some (.bx 3 [vI .i64 x116]))), 19, [1000000]⟩) ?_ ?_
  · rintro st ⟨y461, hz, rfl⟩
    subst hz
    have h0 : some y461 = some r := h0
    refine inBlockQ_r ?_
    refine thenQ_r ?_
    cases h0
    exact finQ_r (by kernel_rfl) (by kernel_rfl)
  refine Tr.exJoin 0 (fun st => ∃ y462 : Unit, y459 = (Sum.inr y462) ∧ st = ⟨deadT, upd (emptyS) 1000000 (some (some (.bx 3 [vI .i64 x116]))), 19, [1000000]⟩) ?_ ?_
  · rintro st ⟨y462, hz, rfl⟩
    subst hz
    have h0 : F29_1 k y462 = some r := h0
    refine retJ_x ?_
    unfold F29_1 at h0
    refine inBlockQ_hit (by kernel_rfl) ?_
    refine thenQ_n ?_
    refine Tr.seqN (by kernel_rfl) ?_
    refine Tr.regionN (by kernel_rfl) ?_
    refine TrAt.goS good 1 [(4, vI .i64 (-1))] [] (by kernel_rfl) ?_
    refine TrAt.end_ (by kernel_rfl) ?_
    refine thenQ_n ?_
    refine Tr.conv (Conv.normT (keep := [4]) (ρ := [(1000000, 1000000)]) ⟨upd (deadT) 4 (vI .i64 (-1)), upd (emptyS) 1000000 (some (some (.bx 3 [vI .i64 x116]))), 19, [1000000]⟩ (by kernel_rfl)) ?_
    refine Tr.retN (by kernel_rfl) ?_
    cases h0
    exact finQ_r (by kernel_rfl) (by kernel_rfl)
  refine Tr.loopN (fun n st => ∃ y429, F29_2 k x115 x116 n y429 = some y459 ∧ st = ⟨upd (upd (upd (upd (deadT) 8 (vI .i64 y429)) 7 (vI .i64 (x115.length : Int))) 1 (.fn 25 [.pt 1000000 0])) 0 (.t (.fz .u (x115.map en50))), upd (emptyS) 1000000 (some (some (.bx 3 [vI .i64 x116]))), 19, [1000000]⟩) k (by kernel_rfl) ⟨0, h460, rfl⟩ ?_
  rintro n464 st ⟨y429, h463, rfl⟩
  cases n464 with
  | zero => exact nomatch (show (none : Option (Sum Int Unit)) = some y459 from h463)
  | succ n464 =>
    unfold F29_2 at h463
    refine Tr.seqN (by kernel_rfl) ?_
    refine Tr.regionN (by kernel_rfl) ?_
    refine TrAt.goS good 1 [(9, vB (decide (y429 < (x115.length : Int))))] [] (by kernel_rfl) ?_
    refine TrAt.end_ (by kernel_rfl) ?_
    refine thenQ_n ?_
    refine Tr.seqN (by kernel_rfl) ?_
    refine Tr.condN (decide (y429 < (x115.length : Int))) (by kernel_rfl) (by kernel_rfl) ?_ ?_
    · intro g465
      have h463 := cond_t g465 h463
      refine Tr.skipN (by kernel_rfl) ?_
      refine thenQ_n ?_
      refine Tr.seqN (by kernel_rfl) ?_
      refine Tr.blockN (by kernel_rfl) ?_
      refine Tr.seqN (by kernel_rfl) ?_
      refine Tr.regionN (by kernel_rfl) ?_
      refine TrAt.goS good 2 [(10, vI .i64 y429), (5, vI .i64 y429)] [] (by kernel_rfl) ?_
      refine TrAt.end_ (by kernel_rfl) ?_
      refine thenQ_n ?_
      refine Tr.seqN (by kernel_rfl) ?_
      refine Tr.regionN (by kernel_rfl) ?_
      refine TrAt.goS good 3 [(11, .fn 25 [.pt 1000000 0]), (12, .t (.fz .u (x115.map en50))), (13, vI .i64 y429)] [] (by kernel_rfl) ?_
      obtain ⟨x466, h467, h463⟩ := bind_out h463
      obtain ⟨h468, h469⟩ := ix_out h467
      refine TrAt.lawP 14 _ _ (by kernel_rfl) (by kernel_rfl) (by kernel_rfl) (by kernel_rfl) (ixFz_ok good (t := 33) (e := 50) (x := .tmp 12) (i := .tmp 13) (nl := .u) (enc := en50) (xs := x115) (k := .i64) (n := y429) (a := x466) (by kernel_rfl) (by kernel_rfl) (by kernel_rfl) wide50 (by kernel_rfl) (by kernel_rfl) h468 h469) ?_
      refine TrAt.goS good 1 [(15, .ag [vI .i64 x466.f0, vI .i64 x466.f1])] [] (by kernel_rfl) ?_
      obtain ⟨y470, h471, h463⟩ := bind_out h463
      refine TrAt.callD (caps := [.pt 1000000 0]) 16 (vB (x466.f0 == x116)) [(1000000, 1000000)] [] (.tmp 11) #[.tmp 15] #[50] (ct_F25 k x466.f0 x466.f1 x116 y470 h471) Try.func25 (by kernel_rfl) (by kernel_rfl) (by kernel_rfl) (by kernel_rfl) (by kernel_rfl) (by kernel_rfl) (by kernel_rfl) (by kernel_rfl) (by kernel_rfl) (by kernel_rfl) (by kernel_rfl) (by kernel_rfl) (by kernel_rfl) (by kernel_rfl) (by kernel_rfl) ?_
      refine TrAt.end_ (by kernel_rfl) ?_
      refine thenQ_n ?_
      refine Tr.condN (x466.f0 == x116) (by kernel_rfl) (by kernel_rfl) ?_ ?_
      · intro g472
        have h463 := cond_t g472 h463
        refine Tr.seqN (by kernel_rfl) ?_
        refine Tr.regionN (by kernel_rfl) ?_
        refine TrAt.goS good 2 [(17, vI .i64 y429), (4, vI .i64 y429)] [] (by kernel_rfl) ?_
        refine TrAt.end_ (by kernel_rfl) ?_
        refine thenQ_n ?_
        refine Tr.conv (Conv.normT (keep := [4]) (ρ := [(1000000, 1000000)]) ⟨upd (deadT) 4 (vI .i64 y429), upd (emptyS) 1000000 (some (some (.bx 3 [vI .i64 x116]))), 19, [1000000]⟩ (by kernel_rfl)) ?_
        refine Tr.retN (by kernel_rfl) ?_
        refine inBlockQ_r ?_
        refine thenQ_r ?_
        refine loopQ_r ?_
        refine exQ_r ?_
        refine retJ_r ?_
        exact ⟨y429, (Option.some.inj h463).symm, rfl⟩
      · intro g472
        have h463 := cond_f g472 h463
        refine Tr.skipN (by kernel_rfl) ?_
        refine inBlockQ_n ?_
        refine thenQ_n ?_
        refine Tr.regionN (by kernel_rfl) ?_
        refine TrAt.goS good 2 [(18, vI .i64 (IntKind.wrap .i64 (y429 + 1))), (8, vI .i64 (IntKind.wrap .i64 (y429 + 1)))] [] (by kernel_rfl) ?_
        refine TrAt.conv (Conv.normT (keep := [0, 1, 7, 8]) (ρ := [(1000000, 1000000)]) ⟨upd (upd (upd (upd (deadT) 8 (vI .i64 (IntKind.wrap .i64 (y429 + 1)))) 7 (vI .i64 (x115.length : Int))) 1 (.fn 25 [.pt 1000000 0])) 0 (.t (.fz .u (x115.map en50))), upd (emptyS) 1000000 (some (some (.bx 3 [vI .i64 x116]))), 19, [1000000]⟩ (by kernel_rfl)) ?_
        refine TrAt.end_ (by kernel_rfl) ?_
        refine loopQ_n ?_
        exact ⟨(IntKind.wrap .i64 (y429 + 1)), h463, rfl⟩
    · intro g465
      have h463 := cond_f g465 h463
      refine Tr.conv (Conv.normT (keep := []) (ρ := [(1000000, 1000000)]) ⟨deadT, upd (emptyS) 1000000 (some (some (.bx 3 [vI .i64 x116]))), 19, [1000000]⟩ (by kernel_rfl)) ?_
      refine Tr.exitN (by kernel_rfl) ?_
      refine thenQ_x ?_
      refine loopQ_x ?_
      refine exQ_hit (by kernel_rfl) ?_
      exact ⟨(), (Option.some.inj h463).symm, rfl⟩
def F24 (k : Nat) (x113 : (List E50)) (x114 : Int) : Option Bool :=
  (F29 k x113 x114).bind fun y478 =>
  some (decide (0 ≤ y478))
theorem ct_F24 (k : Nat) (x113 : (List E50)) (x114 : Int) (r : Bool) (h0 : F24 k x113 x114 = some r) : CTd Try.prog 24 [.t (.fz .u (x113.map en50)), .fn 25 [.pt 1000000 0]] [(1000000, .bx 3 [vI .i64 x114])] (vB r) (upd (emptyS) 1000000 (some (some (.bx 3 [vI .i64 x114])))) := by
  refine CTd.of_tr Try.f24 Try.func24 (by kernel_rfl) ?_
  unfold F24 at h0
  refine Tr.conv (Conv.normT (keep := [0, 1]) (ρ := [(1000000, 1000000)]) ⟨upd (upd (deadT) 1 (.fn 25 [.pt 1000000 0])) 0 (.t (.fz .u (x113.map en50))), upd (emptyS) 1000000 (some (some (.bx 3 [vI .i64 x114]))), 9, [1000000]⟩ (by kernel_rfl)) ?_
  refine Tr.seqN (by kernel_rfl) ?_
  refine Tr.regionN (by kernel_rfl) ?_
  refine TrAt.goS good 1 [(4, vB false)] [] (by kernel_rfl) ?_
  refine TrAt.end_ (by kernel_rfl) ?_
  refine thenQ_n ?_
  refine Tr.seqN (by kernel_rfl) ?_
  refine Tr.regionN (by kernel_rfl) ?_
  refine TrAt.goS good 2 [(5, .t (.fz .u (x113.map en50))), (6, .fn 25 [.pt 1000000 0])] [] (by kernel_rfl) ?_
  obtain ⟨y478, h479, h0⟩ := bind_out h0
  refine TrAt.callD (caps := []) 7 (vI .i64 y478) [(1000000, 1000000)] [] (.func 29) #[.tmp 5, .tmp 6] #[33, 61] (ct_F29 k x113 x114 y478 h479) Try.func29 (by kernel_rfl) (by kernel_rfl) (by kernel_rfl) (by kernel_rfl) (by kernel_rfl) (by kernel_rfl) (by kernel_rfl) (by kernel_rfl) (by kernel_rfl) (by kernel_rfl) (by kernel_rfl) (by kernel_rfl) (by kernel_rfl) (by kernel_rfl) (by kernel_rfl) ?_
  refine TrAt.goS good 2 [(8, vB (decide (0 ≤ y478))), (4, vB (decide (0 ≤ y478)))] [] (by kernel_rfl) ?_
  refine TrAt.end_ (by kernel_rfl) ?_
  refine thenQ_n ?_
  refine Tr.conv (Conv.normT (keep := [4]) (ρ := [(1000000, 1000000)]) ⟨upd (deadT) 4 (vB (decide (0 ≤ y478))), upd (emptyS) 1000000 (some (some (.bx 3 [vI .i64 x114]))), 9, [1000000]⟩ (by kernel_rfl)) ?_
  refine Tr.retN (by kernel_rfl) ?_
  cases h0
  exact finQ_r (by kernel_rfl) (by kernel_rfl)
def F12_1 (k : Nat) (y818 : (List Int)) : Option (List Int) :=
  some y818
def F12_3 (k : Nat) (rcn821 : Int → (List Int) → Option (List Int)) (y788 : Int) (y823 : (List Int)) : Option (List Int) :=
  rcn821 (IntKind.wrap .i64 (y788 + 1)) y823
def F12_2 (k : Nat) (x100 : Int) (x102 : (List E35)) : Nat → Int → (List Int) → Option (List Int)
  | 0, _, _ => none
  | n821+1, y788, y789 =>
    cond (decide (y788 < (x102.length : Int))) ((ix x102 y788).bind fun x824 =>
    (F24 k x824.f2 x100).bind fun y830 =>
    cond y830 (grd (decide ((y789.length + ([x824.f0]).length) * 4 ≤ 140737488355328)) <|
    F12_3 k (F12_2 k x100 x102 n821) y788 (y789 ++ ([x824.f0]))) (F12_3 k (F12_2 k x100 x102 n821) y788 y789)) (some y789)
def F12 (k : Nat) (x100 : Int) (x101 : Int) (x102 : (List E35)) : Option (List Int) :=
  (F12_2 k x100 x102 k 0 ([])).bind fun y818 =>
  F12_1 k y818
theorem ct_F12 (k : Nat) (x100 : Int) (x101 : Int) (x102 : (List E35)) (r : (List Int)) (h0 : F12 k x100 x101 x102 = some r) : CTd Try.prog 12 [.pt 1000000 0, vI .i64 x100] [(1000000, .bx 59 [.sl .n 1000001, vI .u32 x101]), (1000001, .ar 35 3 (x102.map en35))] (.sl .n 500000) (upd (upd (upd (emptyS) 500000 (some (some (.ar 29 1 (r.map en29))))) 1000001 (some (some (.ar 35 3 (x102.map en35))))) 1000000 (some (some (.bx 59 [.sl .n 1000001, vI .u32 x101])))) := by
  refine CTd.of_tr Try.f12 Try.func12 (by kernel_rfl) ?_
  unfold F12 at h0
  refine Tr.conv (Conv.normT (keep := [0, 1]) (ρ := [(1000000, 1000000), (1000001, 1000001)]) ⟨upd (upd (deadT) 1 (vI .i64 x100)) 0 (.pt 1000000 0), upd (upd (emptyS) 1000001 (some (some (.ar 35 3 (x102.map en35))))) 1000000 (some (some (.bx 59 [.sl .n 1000001, vI .u32 x101]))), 30, [1000000, 1000001]⟩ (by kernel_rfl)) ?_
  refine Tr.seqN (by kernel_rfl) ?_
  refine Tr.regionN (by kernel_rfl) ?_
  refine TrAt.goS good 2 [(3, .pt 3 0), (4, .t (.sc (.slice none 0 0)))] [(3, .bx 3 [vI .i64 x100])] (by kernel_rfl) ?_
  refine TrAt.end_ (by kernel_rfl) ?_
  refine thenQ_n ?_
  refine Tr.seqN (by kernel_rfl) ?_
  refine Tr.regionN (by kernel_rfl) ?_
  refine TrAt.goS good 1 [(5, .t (.sc (.slice none 0 0)))] [] (by kernel_rfl) ?_
  refine TrAt.end_ (by kernel_rfl) ?_
  refine thenQ_n ?_
  refine Tr.seqN (by kernel_rfl) ?_
  refine Tr.seqN (by kernel_rfl) ?_
  refine Tr.regionN (by kernel_rfl) ?_
  refine TrAt.goS good 2 [(8, .pt 1000000 0), (9, vB true)] [] (by kernel_rfl) ?_
  refine TrAt.end_ (by kernel_rfl) ?_
  refine thenQ_n ?_
  refine Tr.condT (by kernel_rfl) (by kernel_rfl) ?_
  refine Tr.seqN (by kernel_rfl) ?_
  refine Tr.regionN (by kernel_rfl) ?_
  refine TrAt.goS good 4 [(10, .pt 1000000 0), (11, .pt 1000000 0), (12, .pt 1000000 0), (13, .sl .n 1000001)] [] (by kernel_rfl) ?_
  refine TrAt.lawP 14 _ _ (by kernel_rfl) (by kernel_rfl) (by kernel_rfl) (by kernel_rfl) (lenSl_ok good (t := 44) (e := 35) (x := .tmp 13) (nl := .n) (enc := en35) (xs := x102) (nm := 1000001) (e' := 35) (sz := 3) (by kernel_rfl) (by kernel_rfl) (by kernel_rfl) (by kernel_rfl)) ?_
  refine TrAt.goS good 1 [(15, vI .i64 0)] [] (by kernel_rfl) ?_
  refine TrAt.end_ (by kernel_rfl) ?_
  refine thenQ_n ?_
  refine Tr.blockN (by kernel_rfl) ?_
  obtain ⟨y818, h819, h0⟩ := bind_out h0
  refine Tr.conv (Conv.nilSl 5 200012 29 1 (by kernel_rfl) (by kernel_rfl) (by kernel_rfl)) ?_
  refine Tr.conv (Conv.normT (keep := [3, 5, 13, 14, 15]) (ρ := [(1000000, 1000000), (1000001, 1000001), (3, 300000), (200012, 300001)]) ⟨upd (upd (upd (upd (upd (deadT) 15 (vI .i64 0)) 14 (vI .i64 (x102.length : Int))) 13 (.sl .n 1000001)) 5 (.sl .n 300001)) 3 (.pt 300000 0), upd (upd (upd (upd (emptyS) 300001 (some (some (.ar 29 1 (([]).map en29))))) 300000 (some (some (.bx 3 [vI .i64 x100])))) 1000001 (some (some (.ar 35 3 (x102.map en35))))) 1000000 (some (some (.bx 59 [.sl .n 1000001, vI .u32 x101]))), 30, [1000000, 1000001]⟩ (by kernel_rfl)) ?_
  refine Tr.exJoin 0 (fun st => st = ⟨upd (deadT) 5 (.sl .n 300000), upd (upd (upd (emptyS) 300000 (some (some (.ar 29 1 (y818.map en29))))) 1000001 (some (some (.ar 35 3 (x102.map en35))))) 1000000 (some (some (.bx 59 [.sl .n 1000001, vI .u32 x101]))), 30, [1000000, 1000001]⟩) ?_ ?_
  · rintro st rfl
    have h0 : F12_1 k y818 = some r := h0
    unfold F12_1 at h0
    refine inBlockQ_hit (by kernel_rfl) ?_
    refine thenQ_n ?_
    refine Tr.seqN (by kernel_rfl) ?_
    refine Tr.regionN (by kernel_rfl) ?_
    refine TrAt.goS good 2 [(29, .sl .n 300000), (4, .sl .n 300000)] [] (by kernel_rfl) ?_
    refine TrAt.end_ (by kernel_rfl) ?_
    refine thenQ_n ?_
    refine Tr.conv (Conv.normT (keep := [4]) (ρ := [(1000000, 1000000), (1000001, 1000001), (300000, 500000)]) ⟨upd (deadT) 4 (.sl .n 500000), upd (upd (upd (emptyS) 500000 (some (some (.ar 29 1 (y818.map en29))))) 1000001 (some (some (.ar 35 3 (x102.map en35))))) 1000000 (some (some (.bx 59 [.sl .n 1000001, vI .u32 x101]))), 30, [1000000, 1000001]⟩ (by kernel_rfl)) ?_
    refine Tr.retN (by kernel_rfl) ?_
    cases h0
    exact finQ_r (by kernel_rfl) (by kernel_rfl)
  refine Tr.loopN (fun n st => ∃ y788, ∃ y789, F12_2 k x100 x102 n y788 y789 = some y818 ∧ st = ⟨upd (upd (upd (upd (upd (deadT) 15 (vI .i64 y788)) 14 (vI .i64 (x102.length : Int))) 13 (.sl .n 1000001)) 5 (.sl .n 300001)) 3 (.pt 300000 0), upd (upd (upd (upd (emptyS) 300001 (some (some (.ar 29 1 (y789.map en29))))) 300000 (some (some (.bx 3 [vI .i64 x100])))) 1000001 (some (some (.ar 35 3 (x102.map en35))))) 1000000 (some (some (.bx 59 [.sl .n 1000001, vI .u32 x101]))), 30, [1000000, 1000001]⟩) k (by kernel_rfl) ⟨0, [], h819, rfl⟩ ?_
  rintro n821 st ⟨y788, y789, h820, rfl⟩
  cases n821 with
  | zero => exact nomatch (show (none : Option (List Int)) = some y818 from h820)
  | succ n821 =>
    unfold F12_2 at h820
    refine Tr.seqN (by kernel_rfl) ?_
    refine Tr.regionN (by kernel_rfl) ?_
    refine TrAt.goS good 1 [(16, vB (decide (y788 < (x102.length : Int))))] [] (by kernel_rfl) ?_
    refine TrAt.end_ (by kernel_rfl) ?_
    refine thenQ_n ?_
    refine Tr.seqN (by kernel_rfl) ?_
    refine Tr.condN (decide (y788 < (x102.length : Int))) (by kernel_rfl) (by kernel_rfl) ?_ ?_
    · intro g822
      have h820 := cond_t g822 h820
      refine Tr.skipN (by kernel_rfl) ?_
      refine thenQ_n ?_
      refine Tr.seqI (fun st => ∃ y823, F12_3 k (F12_2 k x100 x102 n821) y788 y823 = some y818 ∧ st = ⟨upd (upd (upd (upd (upd (deadT) 15 (vI .i64 y788)) 14 (vI .i64 (x102.length : Int))) 13 (.sl .n 1000001)) 5 (.sl .n 300001)) 3 (.pt 300000 0), upd (upd (upd (upd (emptyS) 300001 (some (some (.ar 29 1 (y823.map en29))))) 300000 (some (some (.bx 3 [vI .i64 x100])))) 1000001 (some (some (.ar 35 3 (x102.map en35))))) 1000000 (some (some (.bx 59 [.sl .n 1000001, vI .u32 x101]))), 30, [1000000, 1000001]⟩) (by kernel_rfl) ?_ ?_
      · refine Tr.blockN (by kernel_rfl) ?_
        refine Tr.seqN (by kernel_rfl) ?_
        refine Tr.regionN (by kernel_rfl) ?_
        obtain ⟨x824, h825, h820⟩ := bind_out h820
        obtain ⟨h826, h827⟩ := ix_out h825
        refine TrAt.lawP 17 _ _ (by kernel_rfl) (by kernel_rfl) (by kernel_rfl) (by kernel_rfl) (ixSl_ok good (t := 44) (e := 35) (x := .tmp 13) (i := .tmp 15) (nl := .n) (enc := en35) (xs := x102) (k := .i64) (n := y788) (a := x824) (nm := 1000001) (e' := 35) (sz := 3) (by kernel_rfl) (by kernel_rfl) (by kernel_rfl) (by kernel_rfl) (by kernel_rfl) (by kernel_rfl) (by kernel_rfl) h826 h827) ?_
        refine TrAt.lawP 18 _ _ (by kernel_rfl) (by kernel_rfl) (by kernel_rfl) (by kernel_rfl) (loadPe_ok good (t := 35) (p := .tmp 17) (nm := 1000001) (i := (y788).toNat) (off := 0) (e' := 35) (sz := 3) (enc := en35) (xs := x102) (a := x824) (v := .ag [vI .u32 x824.f0, vI .u32 x824.f1, .t (.fz .u (x824.f2.map en50))]) (by kernel_rfl) (by kernel_rfl) (by kernel_rfl) h827 (by kernel_rfl)) ?_
        refine TrAt.goS good 2 [(7, .pt 7 0)] [(7, .bx 35 [vI .u32 0, vI .u32 0, .t (.sc (.slice none 0 0))]), (7, .bx 35 [vI .u32 x824.f0, vI .u32 x824.f1, .t (.fz .u (x824.f2.map en50))])] (by kernel_rfl) ?_
        refine TrAt.end_ (by kernel_rfl) ?_
        refine thenQ_n ?_
        refine Tr.seqN (by kernel_rfl) ?_
        refine Tr.regionN (by kernel_rfl) ?_
        refine TrAt.goS good 3 [(19, .pt 7 2), (20, .t (.fz .u (x824.f2.map en50))), (21, .fn 25 [.pt 300000 0])] [] (by kernel_rfl) ?_
        obtain ⟨y830, h831, h820⟩ := bind_out h820
        refine TrAt.callD (caps := []) 22 (vB y830) [(1000000, 300000)] [] (.func 24) #[.tmp 20, .tmp 21] #[33, 61] (ct_F24 k x824.f2 x100 y830 h831) Try.func24 (by kernel_rfl) (by kernel_rfl) (by kernel_rfl) (by kernel_rfl) (by kernel_rfl) (by kernel_rfl) (by kernel_rfl) (by kernel_rfl) (by kernel_rfl) (by kernel_rfl) (by kernel_rfl) (by kernel_rfl) (by kernel_rfl) (by kernel_rfl) (by kernel_rfl) ?_
        refine TrAt.end_ (by kernel_rfl) ?_
        refine thenQ_n ?_
        refine Tr.condN y830 (by kernel_rfl) (by kernel_rfl) ?_ ?_
        · intro g832
          have h820 := cond_t g832 h820
          refine Tr.regionN (by kernel_rfl) ?_
          refine TrAt.goS good 3 [(23, .sl .n 300001), (24, .pt 7 0), (25, vI .u32 x824.f0)] [] (by kernel_rfl) ?_
          refine TrAt.lawP 26 _ _ (by kernel_rfl) (by kernel_rfl) (by kernel_rfl) (by kernel_rfl) (bsP_ok good (t := 27) (e := 29) (d := 26) (len := 1) (parts := #[(0, .tmp 25)]) (rows := ([x824.f0]).map en29) (by kernel_rfl) (by kernel_rfl) (by kernel_rfl) (by kernel_rfl) (by kernel_rfl) (by kernel_rfl)) ?_
          obtain ⟨g833, h820⟩ := grd_out h820
          refine TrAt.lawP 27 _ _ (by kernel_rfl) (by kernel_rfl) (by kernel_rfl) (by kernel_rfl) (apP_ok good (x := .tmp 23) (y := .tmp 26) (t := 27) (e := 29) (d := 27) (nl := .n) (enc := en29) (xs := y789) (ys := [x824.f0]) (oo := (some 300001)) (bz := 4) (by kernel_rfl) (by kernel_rfl) (by kernel_rfl) (by kernel_rfl) (by kernel_rfl) (by kernel_rfl) wide29 (by kernel_rfl) g833) ?_
          refine TrAt.goS good 1 [(5, .sl .n 27)] [] (by kernel_rfl) ?_
          refine TrAt.conv (Conv.normT (keep := [3, 5, 13, 14, 15]) (ρ := [(1000000, 1000000), (1000001, 1000001), (300000, 300000), (27, 300001)]) ⟨upd (upd (upd (upd (upd (deadT) 15 (vI .i64 y788)) 14 (vI .i64 (x102.length : Int))) 13 (.sl .n 1000001)) 5 (.sl .n 300001)) 3 (.pt 300000 0), upd (upd (upd (upd (emptyS) 300001 (some (some (.ar 29 1 ((y789 ++ ([x824.f0])).map en29))))) 300000 (some (some (.bx 3 [vI .i64 x100])))) 1000001 (some (some (.ar 35 3 (x102.map en35))))) 1000000 (some (some (.bx 59 [.sl .n 1000001, vI .u32 x101]))), 30, [1000000, 1000001]⟩ (by kernel_rfl)) ?_
          refine TrAt.end_ (by kernel_rfl) ?_
          refine inBlockQ_n ?_
          refine thenI_n ?_
          exact ⟨(y789 ++ ([x824.f0])), h820, rfl⟩
        · intro g832
          have h820 := cond_f g832 h820
          refine Tr.conv (Conv.normT (keep := [3, 5, 13, 14, 15]) (ρ := [(1000000, 1000000), (1000001, 1000001), (300000, 300000), (300001, 300001)]) ⟨upd (upd (upd (upd (upd (deadT) 15 (vI .i64 y788)) 14 (vI .i64 (x102.length : Int))) 13 (.sl .n 1000001)) 5 (.sl .n 300001)) 3 (.pt 300000 0), upd (upd (upd (upd (emptyS) 300001 (some (some (.ar 29 1 (y789.map en29))))) 300000 (some (some (.bx 3 [vI .i64 x100])))) 1000001 (some (some (.ar 35 3 (x102.map en35))))) 1000000 (some (some (.bx 59 [.sl .n 1000001, vI .u32 x101]))), 30, [1000000, 1000001]⟩ (by kernel_rfl)) ?_
          refine Tr.skipN (by kernel_rfl) ?_
          refine inBlockQ_n ?_
          refine thenI_n ?_
          exact ⟨y789, h820, rfl⟩
      · rintro st ⟨y823, h820, rfl⟩
        unfold F12_3 at h820
        refine Tr.regionN (by kernel_rfl) ?_
        refine TrAt.goS good 2 [(28, vI .i64 (IntKind.wrap .i64 (y788 + 1))), (15, vI .i64 (IntKind.wrap .i64 (y788 + 1)))] [] (by kernel_rfl) ?_
        refine TrAt.conv (Conv.normT (keep := [3, 5, 13, 14, 15]) (ρ := [(1000000, 1000000), (1000001, 1000001), (300000, 300000), (300001, 300001)]) ⟨upd (upd (upd (upd (upd (deadT) 15 (vI .i64 (IntKind.wrap .i64 (y788 + 1)))) 14 (vI .i64 (x102.length : Int))) 13 (.sl .n 1000001)) 5 (.sl .n 300001)) 3 (.pt 300000 0), upd (upd (upd (upd (emptyS) 300001 (some (some (.ar 29 1 (y823.map en29))))) 300000 (some (some (.bx 3 [vI .i64 x100])))) 1000001 (some (some (.ar 35 3 (x102.map en35))))) 1000000 (some (some (.bx 59 [.sl .n 1000001, vI .u32 x101]))), 30, [1000000, 1000001]⟩ (by kernel_rfl)) ?_
        refine TrAt.end_ (by kernel_rfl) ?_
        refine loopQ_n ?_
        exact ⟨(IntKind.wrap .i64 (y788 + 1)), y823, h820, rfl⟩
    · intro g822
      have h820 := cond_f g822 h820
      refine Tr.conv (Conv.normT (keep := [5]) (ρ := [(1000000, 1000000), (1000001, 1000001), (300001, 300000)]) ⟨upd (deadT) 5 (.sl .n 300000), upd (upd (upd (emptyS) 300000 (some (some (.ar 29 1 (y789.map en29))))) 1000001 (some (some (.ar 35 3 (x102.map en35))))) 1000000 (some (some (.bx 59 [.sl .n 1000001, vI .u32 x101]))), 30, [1000000, 1000001]⟩ (by kernel_rfl)) ?_
      refine Tr.exitN (by kernel_rfl) ?_
      refine thenQ_x ?_
      refine loopQ_x ?_
      refine exQ_hit (by kernel_rfl) ?_
      cases h820
      rfl
def F27 (k : Nat) (x1030 : Nat) (x1031 : Nat) (x1032 : (List E35)) : Option (List E35) :=
  grd (decide ((([] : List E35).length + ((x1032.drop x1030).take x1031).length) * 32 ≤ 140737488355328)) <|
  some (([] : List E35) ++ ((x1032.drop x1030).take x1031))
theorem ct_F27 (k : Nat) (x1030 : Nat) (x1031 : Nat) (x1032 : (List E35)) (r : (List E35)) (h0 : F27 k x1030 x1031 x1032 = some r) : CTd Try.prog 27 [.sw 1000000 x1030 x1031] [(1000000, .ar 35 3 (x1032.map en35))] (.sl .u 500000) (upd (upd (emptyS) 500000 (some (some (.ar 35 3 (r.map en35))))) 1000000 (some (some (.ar 35 3 (x1032.map en35))))) := by
  refine CTd.of_tr Try.f27 Try.func27 (by kernel_rfl) ?_
  unfold F27 at h0
  refine Tr.conv (Conv.normT (keep := [0]) (ρ := [(1000000, 1000000)]) ⟨upd (deadT) 0 (.sw 1000000 x1030 x1031), upd (emptyS) 1000000 (some (some (.ar 35 3 (x1032.map en35)))), 8, [1000000]⟩ (by kernel_rfl)) ?_
  refine Tr.seqN (by kernel_rfl) ?_
  refine Tr.regionN (by kernel_rfl) ?_
  refine TrAt.goS good 1 [(2, .t (.sc (.slice none 0 0)))] [] (by kernel_rfl) ?_
  refine TrAt.end_ (by kernel_rfl) ?_
  refine thenQ_n ?_
  refine Tr.seqN (by kernel_rfl) ?_
  refine Tr.seqN (by kernel_rfl) ?_
  refine Tr.regionN (by kernel_rfl) ?_
  refine TrAt.goS good 1 [(3, .sw 1000000 x1030 x1031)] [] (by kernel_rfl) ?_
  refine TrAt.nilSw good 3 4 1000000 x1030 x1031 44 35 35 3 44 (x1032.map en35) (by kernel_rfl) (by kernel_rfl) (by kernel_rfl) (by kernel_rfl) (by kernel_rfl) (by kernel_rfl) (by kernel_rfl) (by kernel_rfl) (fun h1039 => ?_) ?_
  · refine TrAt.end_ (by kernel_rfl) ?_
    refine thenQ_n ?_
    refine Tr.condT (by kernel_rfl) (by kernel_rfl) ?_
    refine Tr.seqN (by kernel_rfl) ?_
    refine Tr.regionN (by kernel_rfl) ?_
    refine TrAt.goS good 1 [(2, .t (.sc (.slice none 0 0)))] [] (by kernel_rfl) ?_
    refine TrAt.end_ (by kernel_rfl) ?_
    refine thenQ_n ?_
    refine Tr.conv (Conv.nilSl 2 200013 35 3 (by kernel_rfl) (by kernel_rfl) (by kernel_rfl)) ?_
    refine Tr.conv (Conv.weak 2 (.sl .n 200013) (.sl .u 200013) (by kernel_rfl) (.sl _ _)) ?_
    refine Tr.conv (Conv.normT (keep := [2]) (ρ := [(1000000, 1000000), (200013, 500000)]) ⟨upd (deadT) 2 (.sl .u 500000), upd (upd (emptyS) 500000 (some (some (.ar 35 3 (([]).map en35))))) 1000000 (some (some (.ar 35 3 (x1032.map en35)))), 8, [1000000]⟩ (by kernel_rfl)) ?_
    refine Tr.retN (by kernel_rfl) ?_
    refine thenQ_r ?_
    subst h1039
    cases h0
    exact finQ_r (by kernel_rfl) (by kernel_rfl)
  · refine TrAt.end_ (by kernel_rfl) ?_
    refine thenQ_n ?_
    refine Tr.condF (by kernel_rfl) (by kernel_rfl) ?_
    refine Tr.skipN (by kernel_rfl) ?_
    refine thenQ_n ?_
    refine Tr.seqN (by kernel_rfl) ?_
    refine Tr.regionN (by kernel_rfl) ?_
    refine TrAt.lawP 5 _ _ (by kernel_rfl) (by kernel_rfl) (by kernel_rfl) (by kernel_rfl) (bsP_ok good (t := 44) (e := 35) (d := 5) (len := 0) (parts := #[]) (rows := (([] : List E35)).map en35) (by kernel_rfl) (by kernel_rfl) (by kernel_rfl) (by kernel_rfl) (by kernel_rfl) (by kernel_rfl)) ?_
    refine TrAt.goS good 1 [(6, .sw 1000000 x1030 x1031)] [] (by kernel_rfl) ?_
    obtain ⟨g1040, h0⟩ := grd_out h0
    refine TrAt.lawP 7 _ _ (by kernel_rfl) (by kernel_rfl) (by kernel_rfl) (by kernel_rfl) (apP_ok good (x := .tmp 5) (y := .tmp 6) (t := 44) (e := 35) (d := 7) (nl := .e) (enc := en35) (xs := ([] : List E35)) (ys := ((x1032.drop x1030).take x1031)) (oo := (some 5)) (bz := 32) (by kernel_rfl) (by kernel_rfl) (by kernel_rfl) (by kernel_rfl) (by kernel_rfl) (src_sw (enc := en35) (xs := x1032) (e := 35) (sz := 3) (nm := 1000000) (off := x1030) (len := x1031) (by kernel_rfl) (by kernel_rfl)) wide35 (by kernel_rfl) g1040) ?_
    refine TrAt.goS good 1 [(2, .sl .e 7)] [] (by kernel_rfl) ?_
    refine TrAt.end_ (by kernel_rfl) ?_
    refine thenQ_n ?_
    refine Tr.conv (Conv.weak 2 (.sl .e 7) (.sl .u 7) (by kernel_rfl) (.sl _ _)) ?_
    refine Tr.conv (Conv.normT (keep := [2]) (ρ := [(1000000, 1000000), (7, 500000)]) ⟨upd (deadT) 2 (.sl .u 500000), upd (upd (emptyS) 500000 (some (some (.ar 35 3 ((([] : List E35) ++ ((x1032.drop x1030).take x1031)).map en35))))) 1000000 (some (some (.ar 35 3 (x1032.map en35)))), 8, [1000000]⟩ (by kernel_rfl)) ?_
    refine Tr.retN (by kernel_rfl) ?_
    cases h0
    exact finQ_r (by kernel_rfl) (by kernel_rfl)
def F17_1 (k : Nat) (x848 : (List E35)) (y1105 : Int) : Option (Int × (List E35)) :=
  grd (bnds (x848.length : Int) y1105 (x848.length : Int)) <|
  (F27 k ((y1105).toNat) (((x848.length : Int)).toNat - (y1105).toNat) x848).bind fun y1111 =>
  some (y1105, y1111)
def F17_3 (k : Nat) (rcn1114 : Int → Option Int) (y1084 : Int) (y1115 : Bool) : Option Int :=
  cond y1115 (rcn1114 (IntKind.wrap .i64 (y1084 + 1))) (some y1084)
def F17_2 (k : Nat) (x846 : Int) (x848 : (List E35)) : Nat → Int → Option Int
  | 0, _ => none
  | n1114+1, y1084 =>
    cond (decide (y1084 < (x848.length : Int))) ((ix x848 y1084).bind fun x1118 =>
    F17_3 k (F17_2 k x846 x848 n1114) y1084 (decide (x1118.f0 ≤ x846))) (F17_3 k (F17_2 k x846 x848 n1114) y1084 false)
def F17 (k : Nat) (x846 : Int) (x847 : Int) (x848 : (List E35)) : Option (Int × (List E35)) :=
  (F17_2 k x846 x848 k 0).bind fun y1105 =>
  F17_1 k x848 y1105
theorem ct_F17 (k : Nat) (x846 : Int) (x847 : Int) (x848 : (List E35)) (r : (Int × (List E35))) (h0 : F17 k x846 x847 x848 = some r) : CTd Try.prog 17 [.pt 1000000 0, vI .u32 x846] [(1000000, .bx 59 [.sl .n 1000001, vI .u32 x847]), (1000001, .ar 35 3 (x848.map en35))] (vI .i64 r.1) (upd (upd (upd (emptyS) 500000 (some (some (.ar 35 3 (r.2.map en35))))) 1000001 (some (some (.ar 35 3 (x848.map en35))))) 1000000 (some (some (.bx 59 [.sl .u 500000, vI .u32 x847])))) := by
  refine CTd.of_tr Try.f17 Try.func17 (by kernel_rfl) ?_
  unfold F17 at h0
  refine Tr.conv (Conv.normT (keep := [0, 1]) (ρ := [(1000000, 1000000), (1000001, 1000001)]) ⟨upd (upd (deadT) 1 (vI .u32 x846)) 0 (.pt 1000000 0), upd (upd (emptyS) 1000001 (some (some (.ar 35 3 (x848.map en35))))) 1000000 (some (some (.bx 59 [.sl .n 1000001, vI .u32 x847]))), 40, [1000000, 1000001]⟩ (by kernel_rfl)) ?_
  refine Tr.seqN (by kernel_rfl) ?_
  refine Tr.regionN (by kernel_rfl) ?_
  refine TrAt.goS good 1 [(4, vI .i64 0)] [] (by kernel_rfl) ?_
  refine TrAt.end_ (by kernel_rfl) ?_
  refine thenQ_n ?_
  refine Tr.seqN (by kernel_rfl) ?_
  refine Tr.seqN (by kernel_rfl) ?_
  refine Tr.regionN (by kernel_rfl) ?_
  refine TrAt.goS good 2 [(6, .pt 1000000 0), (7, vB false)] [] (by kernel_rfl) ?_
  refine TrAt.end_ (by kernel_rfl) ?_
  refine thenQ_n ?_
  refine Tr.condF (by kernel_rfl) (by kernel_rfl) ?_
  refine Tr.skipN (by kernel_rfl) ?_
  refine thenQ_n ?_
  refine Tr.seqN (by kernel_rfl) ?_
  refine Tr.regionN (by kernel_rfl) ?_
  refine TrAt.goS good 1 [(5, vI .i64 0)] [] (by kernel_rfl) ?_
  refine TrAt.end_ (by kernel_rfl) ?_
  refine thenQ_n ?_
  refine Tr.seqN (by kernel_rfl) ?_
  refine Tr.blockN (by kernel_rfl) ?_
  obtain ⟨y1105, h1106, h0⟩ := bind_out h0
  refine Tr.conv (Conv.normT (keep := [0, 1, 5]) (ρ := [(1000000, 1000000), (1000001, 1000001)]) ⟨upd (upd (upd (deadT) 5 (vI .i64 0)) 1 (vI .u32 x846)) 0 (.pt 1000000 0), upd (upd (emptyS) 1000001 (some (some (.ar 35 3 (x848.map en35))))) 1000000 (some (some (.bx 59 [.sl .n 1000001, vI .u32 x847]))), 40, [1000000, 1000001]⟩ (by kernel_rfl)) ?_
  refine Tr.exJoin 0 (fun st => st = ⟨upd (upd (deadT) 5 (vI .i64 y1105)) 0 (.pt 1000000 0), upd (upd (emptyS) 1000001 (some (some (.ar 35 3 (x848.map en35))))) 1000000 (some (some (.bx 59 [.sl .n 1000001, vI .u32 x847]))), 40, [1000000, 1000001]⟩) ?_ ?_
  · rintro st rfl
    have h0 : F17_1 k x848 y1105 = some r := h0
    unfold F17_1 at h0
    refine inBlockQ_hit (by kernel_rfl) ?_
    refine thenQ_n ?_
    refine Tr.seqN (by kernel_rfl) ?_
    refine Tr.regionN (by kernel_rfl) ?_
    refine TrAt.goS good 6 [(29, .pt 1000000 0), (30, .pt 1000000 0), (31, .pt 1000000 0), (32, .pt 1000000 0), (33, .sl .n 1000001), (34, vI .i64 y1105)] [] (by kernel_rfl) ?_
    obtain ⟨g1110, h0⟩ := grd_out h0
    refine TrAt.lawP 35 _ _ (by kernel_rfl) (by kernel_rfl) (by kernel_rfl) (by kernel_rfl) (cutSl_ok good (nl := .n) (t := 44) (e := 35) (x := .tmp 33) (lo := (some (.tmp 34))) (hi := none) (enc := en35) (xs := x848) (l := y1105) (h := (x848.length : Int)) (nm := 1000001) (e' := 35) (sz := 3) (by kernel_rfl) (by kernel_rfl) (by kernel_rfl) (by kernel_rfl) (by kernel_rfl) (by kernel_rfl) (by kernel_rfl) (by kernel_rfl) g1110) ?_
    obtain ⟨y1111, h1112, h0⟩ := bind_out h0
    refine TrAt.callD (caps := []) 36 (.sl .u 400720) [(1000000, 1000001)] [(500000, 400720)] (.func 27) #[.tmp 35] #[44] (ct_F27 k ((y1105).toNat) (((x848.length : Int)).toNat - (y1105).toNat) x848 y1111 h1112) Try.func27 (by kernel_rfl) (by kernel_rfl) (by kernel_rfl) (by kernel_rfl) (by kernel_rfl) (by kernel_rfl) (by kernel_rfl) (by kernel_rfl) (by kernel_rfl) (by kernel_rfl) (by kernel_rfl) (by kernel_rfl) (by kernel_rfl) (by kernel_rfl) (by kernel_rfl) ?_
    refine TrAt.goS good 3 [(37, .pt 1000000 0), (38, .pt 1000000 0)] [(1000000, .bx 59 [.sl .u 400720, vI .u32 x847])] (by kernel_rfl) ?_
    refine TrAt.end_ (by kernel_rfl) ?_
    refine thenQ_n ?_
    refine Tr.seqN (by kernel_rfl) ?_
    refine Tr.regionN (by kernel_rfl) ?_
    refine TrAt.goS good 2 [(39, vI .i64 y1105), (4, vI .i64 y1105)] [] (by kernel_rfl) ?_
    refine TrAt.end_ (by kernel_rfl) ?_
    refine thenQ_n ?_
    refine Tr.conv (Conv.normT (keep := [4]) (ρ := [(1000000, 1000000), (1000001, 1000001), (400720, 500000)]) ⟨upd (deadT) 4 (vI .i64 y1105), upd (upd (upd (emptyS) 500000 (some (some (.ar 35 3 (y1111.map en35))))) 1000001 (some (some (.ar 35 3 (x848.map en35))))) 1000000 (some (some (.bx 59 [.sl .u 500000, vI .u32 x847]))), 40, [1000000, 1000001]⟩ (by kernel_rfl)) ?_
    refine Tr.retN (by kernel_rfl) ?_
    cases h0
    exact finQ_r (by kernel_rfl) (by kernel_rfl)
  refine Tr.loopN (fun n st => ∃ y1084, F17_2 k x846 x848 n y1084 = some y1105 ∧ st = ⟨upd (upd (upd (deadT) 5 (vI .i64 y1084)) 1 (vI .u32 x846)) 0 (.pt 1000000 0), upd (upd (emptyS) 1000001 (some (some (.ar 35 3 (x848.map en35))))) 1000000 (some (some (.bx 59 [.sl .n 1000001, vI .u32 x847]))), 40, [1000000, 1000001]⟩) k (by kernel_rfl) ⟨0, h1106, rfl⟩ ?_
  rintro n1114 st ⟨y1084, h1113, rfl⟩
  cases n1114 with
  | zero => exact nomatch (show (none : Option Int) = some y1105 from h1113)
  | succ n1114 =>
    unfold F17_2 at h1113
    refine Tr.seqN (by kernel_rfl) ?_
    refine Tr.seqI (fun st => ∃ y1115, F17_3 k (F17_2 k x846 x848 n1114) y1084 y1115 = some y1105 ∧ st = ⟨upd (upd (upd (upd (deadT) 26 (vB y1115)) 5 (vI .i64 y1084)) 1 (vI .u32 x846)) 0 (.pt 1000000 0), upd (upd (emptyS) 1000001 (some (some (.ar 35 3 (x848.map en35))))) 1000000 (some (some (.bx 59 [.sl .n 1000001, vI .u32 x847]))), 40, [1000000, 1000001]⟩) (by kernel_rfl) ?_ ?_
    · refine Tr.regionN (by kernel_rfl) ?_
      refine TrAt.goS good 5 [(8, vI .i64 y1084), (9, .pt 1000000 0), (10, .pt 1000000 0), (11, .pt 1000000 0), (12, .sl .n 1000001)] [] (by kernel_rfl) ?_
      refine TrAt.lawP 13 _ _ (by kernel_rfl) (by kernel_rfl) (by kernel_rfl) (by kernel_rfl) (lenSl_ok good (t := 44) (e := 35) (x := .tmp 12) (nl := .n) (enc := en35) (xs := x848) (nm := 1000001) (e' := 35) (sz := 3) (by kernel_rfl) (by kernel_rfl) (by kernel_rfl) (by kernel_rfl)) ?_
      refine TrAt.goS good 2 [(14, vB (decide (y1084 < (x848.length : Int)))), (15, vB (decide (y1084 < (x848.length : Int))))] [] (by kernel_rfl) ?_
      cases g1117 : ((decide (y1084 < (x848.length : Int))) : Bool) with
      | true =>
        have h1113 := cond_t g1117 h1113
        refine TrAt.goS good 5 [(16, .pt 1000000 0), (17, .pt 1000000 0), (18, .pt 1000000 0), (19, .sl .n 1000001), (20, vI .i64 y1084)] [] (by kernel_rfl) ?_
        obtain ⟨x1118, h1119, h1113⟩ := bind_out h1113
        obtain ⟨h1120, h1121⟩ := ix_out h1119
        refine TrAt.lawP 21 _ _ (by kernel_rfl) (by kernel_rfl) (by kernel_rfl) (by kernel_rfl) (ixSl_ok good (t := 44) (e := 35) (x := .tmp 19) (i := .tmp 20) (nl := .n) (enc := en35) (xs := x848) (k := .i64) (n := y1084) (a := x1118) (nm := 1000001) (e' := 35) (sz := 3) (by kernel_rfl) (by kernel_rfl) (by kernel_rfl) (by kernel_rfl) (by kernel_rfl) (by kernel_rfl) (by kernel_rfl) h1120 h1121) ?_
        refine TrAt.goS good 1 [(22, .pe 1000001 ((y1084).toNat) 0)] [] (by kernel_rfl) ?_
        refine TrAt.lawP 23 _ _ (by kernel_rfl) (by kernel_rfl) (by kernel_rfl) (by kernel_rfl) (loadPe_ok good (t := 29) (p := .tmp 22) (nm := 1000001) (i := (y1084).toNat) (off := 0) (e' := 35) (sz := 3) (enc := en35) (xs := x848) (a := x1118) (v := vI .u32 x1118.f0) (by kernel_rfl) (by kernel_rfl) (by kernel_rfl) h1121 (by kernel_rfl)) ?_
        refine TrAt.goS good 3 [(24, vI .u32 x846), (25, vB (decide (x1118.f0 ≤ x846))), (26, vB (decide (x1118.f0 ≤ x846)))] [] (by kernel_rfl) ?_
        refine TrAt.conv (Conv.normT (keep := [0, 1, 5, 26]) (ρ := [(1000000, 1000000), (1000001, 1000001)]) ⟨upd (upd (upd (upd (deadT) 26 (vB (decide (x1118.f0 ≤ x846)))) 5 (vI .i64 y1084)) 1 (vI .u32 x846)) 0 (.pt 1000000 0), upd (upd (emptyS) 1000001 (some (some (.ar 35 3 (x848.map en35))))) 1000000 (some (some (.bx 59 [.sl .n 1000001, vI .u32 x847]))), 40, [1000000, 1000001]⟩ (by kernel_rfl)) ?_
        refine TrAt.end_ (by kernel_rfl) ?_
        refine thenI_n ?_
        exact ⟨(decide (x1118.f0 ≤ x846)), h1113, rfl⟩
      | false =>
        have h1113 := cond_f g1117 h1113
        refine TrAt.goS good 11 [(16, .tp []), (17, .tp []), (18, .tp []), (19, .tp []), (20, .tp []), (21, .tp []), (22, .tp []), (23, .tp []), (24, .tp []), (25, .tp []), (26, vB false)] [] (by kernel_rfl) ?_
        refine TrAt.conv (Conv.normT (keep := [0, 1, 5, 26]) (ρ := [(1000000, 1000000), (1000001, 1000001)]) ⟨upd (upd (upd (upd (deadT) 26 (vB false)) 5 (vI .i64 y1084)) 1 (vI .u32 x846)) 0 (.pt 1000000 0), upd (upd (emptyS) 1000001 (some (some (.ar 35 3 (x848.map en35))))) 1000000 (some (some (.bx 59 [.sl .n 1000001, vI .u32 x847]))), 40, [1000000, 1000001]⟩ (by kernel_rfl)) ?_
        refine TrAt.end_ (by kernel_rfl) ?_
        refine thenI_n ?_
        exact ⟨false, h1113, rfl⟩
    · rintro st ⟨y1115, h1113, rfl⟩
      unfold F17_3 at h1113
      refine Tr.condN y1115 (by kernel_rfl) (by kernel_rfl) ?_ ?_
      · intro g1116
        have h1113 := cond_t g1116 h1113
        refine Tr.skipN (by kernel_rfl) ?_
        refine thenQ_n ?_
        refine Tr.blockN (by kernel_rfl) ?_
        refine Tr.regionN (by kernel_rfl) ?_
        refine TrAt.goS good 3 [(27, vI .i64 y1084), (28, vI .i64 (IntKind.wrap .i64 (y1084 + 1))), (5, vI .i64 (IntKind.wrap .i64 (y1084 + 1)))] [] (by kernel_rfl) ?_
        refine TrAt.conv (Conv.normT (keep := [0, 1, 5]) (ρ := [(1000000, 1000000), (1000001, 1000001)]) ⟨upd (upd (upd (deadT) 5 (vI .i64 (IntKind.wrap .i64 (y1084 + 1)))) 1 (vI .u32 x846)) 0 (.pt 1000000 0), upd (upd (emptyS) 1000001 (some (some (.ar 35 3 (x848.map en35))))) 1000000 (some (some (.bx 59 [.sl .n 1000001, vI .u32 x847]))), 40, [1000000, 1000001]⟩ (by kernel_rfl)) ?_
        refine TrAt.end_ (by kernel_rfl) ?_
        refine inBlockQ_n ?_
        refine loopQ_n ?_
        exact ⟨(IntKind.wrap .i64 (y1084 + 1)), h1113, rfl⟩
      · intro g1116
        have h1113 := cond_f g1116 h1113
        refine Tr.conv (Conv.normT (keep := [0, 5]) (ρ := [(1000000, 1000000), (1000001, 1000001)]) ⟨upd (upd (deadT) 5 (vI .i64 y1084)) 0 (.pt 1000000 0), upd (upd (emptyS) 1000001 (some (some (.ar 35 3 (x848.map en35))))) 1000000 (some (some (.bx 59 [.sl .n 1000001, vI .u32 x847]))), 40, [1000000, 1000001]⟩ (by kernel_rfl)) ?_
        refine Tr.exitN (by kernel_rfl) ?_
        refine thenQ_x ?_
        refine loopQ_x ?_
        refine exQ_hit (by kernel_rfl) ?_
        cases h1113
        rfl
def F16 (k : Nat) (x1125 : Int) (x1126 : (List E35)) : Option Unit :=
  some ()
theorem ct_F16 (k : Nat) (x1125 : Int) (x1126 : (List E35)) (r : Unit) (h0 : F16 k x1125 x1126 = some r) : CTd Try.prog 16 [.pt 1000000 0] [(1000000, .bx 59 [.sl .u 1000001, vI .u32 x1125]), (1000001, .ar 35 3 (x1126.map en35))] (vI .u32 x1125) (upd (upd (emptyS) 1000001 (some (some (.ar 35 3 (x1126.map en35))))) 1000000 (some (some (.bx 59 [.sl .u 1000001, vI .u32 x1125])))) := by
  refine CTd.of_tr Try.f16 Try.func16 (by kernel_rfl) ?_
  unfold F16 at h0
  refine Tr.conv (Conv.normT (keep := [0]) (ρ := [(1000000, 1000000), (1000001, 1000001)]) ⟨upd (deadT) 0 (.pt 1000000 0), upd (upd (emptyS) 1000001 (some (some (.ar 35 3 (x1126.map en35))))) 1000000 (some (some (.bx 59 [.sl .u 1000001, vI .u32 x1125]))), 9, [1000000, 1000001]⟩ (by kernel_rfl)) ?_
  refine Tr.seqN (by kernel_rfl) ?_
  refine Tr.regionN (by kernel_rfl) ?_
  refine TrAt.goS good 1 [(2, vI .u32 0)] [] (by kernel_rfl) ?_
  refine TrAt.end_ (by kernel_rfl) ?_
  refine thenQ_n ?_
  refine Tr.seqN (by kernel_rfl) ?_
  refine Tr.seqN (by kernel_rfl) ?_
  refine Tr.regionN (by kernel_rfl) ?_
  refine TrAt.goS good 2 [(3, .pt 1000000 0), (4, vB false)] [] (by kernel_rfl) ?_
  refine TrAt.end_ (by kernel_rfl) ?_
  refine thenQ_n ?_
  refine Tr.condF (by kernel_rfl) (by kernel_rfl) ?_
  refine Tr.skipN (by kernel_rfl) ?_
  refine thenQ_n ?_
  refine Tr.seqN (by kernel_rfl) ?_
  refine Tr.regionN (by kernel_rfl) ?_
  refine TrAt.goS good 5 [(5, .pt 1000000 0), (6, .pt 1000000 0), (7, .pt 1000000 1), (8, vI .u32 x1125), (2, vI .u32 x1125)] [] (by kernel_rfl) ?_
  refine TrAt.end_ (by kernel_rfl) ?_
  refine thenQ_n ?_
  refine Tr.conv (Conv.normT (keep := [2]) (ρ := [(1000000, 1000000), (1000001, 1000001)]) ⟨upd (deadT) 2 (vI .u32 x1125), upd (upd (emptyS) 1000001 (some (some (.ar 35 3 (x1126.map en35))))) 1000000 (some (some (.bx 59 [.sl .u 1000001, vI .u32 x1125]))), 9, [1000000, 1000001]⟩ (by kernel_rfl)) ?_
  refine Tr.retN (by kernel_rfl) ?_
  cases h0
  exact finQ_r (by kernel_rfl) (by kernel_rfl)
def F15 (k : Nat) (x1130 : Int) (x1131 : (List E35)) : Option Unit :=
  some ()
theorem ct_F15 (k : Nat) (x1130 : Int) (x1131 : (List E35)) (r : Unit) (h0 : F15 k x1130 x1131 = some r) : CTd Try.prog 15 [.pt 1000000 0] [(1000000, .bx 59 [.sl .u 1000001, vI .u32 x1130]), (1000001, .ar 35 3 (x1131.map en35))] (vI .i64 (x1131.length : Int)) (upd (upd (emptyS) 1000001 (some (some (.ar 35 3 (x1131.map en35))))) 1000000 (some (some (.bx 59 [.sl .u 1000001, vI .u32 x1130])))) := by
  refine CTd.of_tr Try.f15 Try.func15 (by kernel_rfl) ?_
  unfold F15 at h0
  refine Tr.conv (Conv.normT (keep := [0]) (ρ := [(1000000, 1000000), (1000001, 1000001)]) ⟨upd (deadT) 0 (.pt 1000000 0), upd (upd (emptyS) 1000001 (some (some (.ar 35 3 (x1131.map en35))))) 1000000 (some (some (.bx 59 [.sl .u 1000001, vI .u32 x1130]))), 10, [1000000, 1000001]⟩ (by kernel_rfl)) ?_
  refine Tr.seqN (by kernel_rfl) ?_
  refine Tr.regionN (by kernel_rfl) ?_
  refine TrAt.goS good 1 [(2, vI .i64 0)] [] (by kernel_rfl) ?_
  refine TrAt.end_ (by kernel_rfl) ?_
  refine thenQ_n ?_
  refine Tr.seqN (by kernel_rfl) ?_
  refine Tr.seqN (by kernel_rfl) ?_
  refine Tr.regionN (by kernel_rfl) ?_
  refine TrAt.goS good 2 [(3, .pt 1000000 0), (4, vB false)] [] (by kernel_rfl) ?_
  refine TrAt.end_ (by kernel_rfl) ?_
  refine thenQ_n ?_
  refine Tr.condF (by kernel_rfl) (by kernel_rfl) ?_
  refine Tr.skipN (by kernel_rfl) ?_
  refine thenQ_n ?_
  refine Tr.seqN (by kernel_rfl) ?_
  refine Tr.regionN (by kernel_rfl) ?_
  refine TrAt.goS good 4 [(5, .pt 1000000 0), (6, .pt 1000000 0), (7, .pt 1000000 0), (8, .sl .u 1000001)] [] (by kernel_rfl) ?_
  refine TrAt.lawP 9 _ _ (by kernel_rfl) (by kernel_rfl) (by kernel_rfl) (by kernel_rfl) (lenSl_ok good (t := 44) (e := 35) (x := .tmp 8) (nl := .u) (enc := en35) (xs := x1131) (nm := 1000001) (e' := 35) (sz := 3) (by kernel_rfl) (by kernel_rfl) (by kernel_rfl) (by kernel_rfl)) ?_
  refine TrAt.goS good 1 [(2, vI .i64 (x1131.length : Int))] [] (by kernel_rfl) ?_
  refine TrAt.end_ (by kernel_rfl) ?_
  refine thenQ_n ?_
  refine Tr.conv (Conv.normT (keep := [2]) (ρ := [(1000000, 1000000), (1000001, 1000001)]) ⟨upd (deadT) 2 (vI .i64 (x1131.length : Int)), upd (upd (emptyS) 1000001 (some (some (.ar 35 3 (x1131.map en35))))) 1000000 (some (some (.bx 59 [.sl .u 1000001, vI .u32 x1130]))), 10, [1000000, 1000001]⟩ (by kernel_rfl)) ?_
  refine Tr.retN (by kernel_rfl) ?_
  cases h0
  exact finQ_r (by kernel_rfl) (by kernel_rfl)
def F9_1 (k : Nat) (y1180 : Bool) : Option Bool :=
  some y1180
def F9 (k : Nat)  : Option Bool :=
  (F13 k).bind fun y1152 =>
  (F14 k 3 1 0 ([(E50.mk 0 1)])).bind fun y1154 =>
  (F14_v1 k 5 5 y1154.2.1 ([(E50.mk 0 2), (E50.mk 1 1)]) y1154.2.2).bind fun y1158 =>
  (F12 k 1 y1158.2.1 y1158.2.2).bind fun y1162 =>
  cond (y1154.1 == 0) (cond (y1158.1 == 0) (cond ((y1162.length : Int) == 1) ((ix y1162 0).bind fun x1184 =>
  cond (x1184 == 5) ((F17 k 3 y1158.2.1 y1158.2.2).bind fun y1189 =>
  cond (y1189.1 == 1) ((F16 k y1158.2.1 y1189.2).bind fun y1192 =>
  cond (y1158.2.1 == 5) ((F15 k y1158.2.1 y1189.2).bind fun y1195 =>
  F9_1 k ((y1189.2.length : Int) == 1)) (F9_1 k false)) (F9_1 k false)) (F9_1 k false)) (F9_1 k false)) (F9_1 k false)) (F9_1 k false)
theorem ct_F9 (k : Nat)  (r : Bool) (h0 : F9 k = some r) : CTd Try.prog 9 [] [] (vB r) (emptyS) := by
  refine CTd.of_tr Try.f9 Try.func9 (by kernel_rfl) ?_
  unfold F9 at h0
  refine Tr.conv (Conv.normT (keep := []) (ρ := []) ⟨deadT, emptyS, 53, []⟩ (by kernel_rfl)) ?_
  refine Tr.seqN (by kernel_rfl) ?_
  refine Tr.regionN (by kernel_rfl) ?_
  refine TrAt.goS good 1 [(0, vB false)] [] (by kernel_rfl) ?_
  refine TrAt.end_ (by kernel_rfl) ?_
  refine thenQ_n ?_
  refine Tr.seqN (by kernel_rfl) ?_
  refine Tr.regionN (by kernel_rfl) ?_
  obtain ⟨y1152, h1153, h0⟩ := bind_out h0
  refine TrAt.callD (caps := []) 5 (.pt 400100 0) [] [(500000, 400100)] (.func 13) #[] #[] (ct_F13 k y1152 h1153) Try.func13 (by kernel_rfl) (by kernel_rfl) (by kernel_rfl) (by kernel_rfl) (by kernel_rfl) (by kernel_rfl) (by kernel_rfl) (by kernel_rfl) (by kernel_rfl) (by kernel_rfl) (by kernel_rfl) (by kernel_rfl) (by kernel_rfl) (by kernel_rfl) (by kernel_rfl) ?_
  refine TrAt.goS good 1 [(1, .pt 400100 0)] [] (by kernel_rfl) ?_
  refine TrAt.end_ (by kernel_rfl) ?_
  refine thenQ_n ?_
  refine Tr.seqN (by kernel_rfl) ?_
  refine Tr.seqN (by kernel_rfl) ?_
  refine Tr.regionN (by kernel_rfl) ?_
  refine TrAt.goS good 2 [(6, .pt 400100 0), (7, vB false)] [] (by kernel_rfl) ?_
  refine TrAt.end_ (by kernel_rfl) ?_
  refine thenQ_n ?_
  refine Tr.condF (by kernel_rfl) (by kernel_rfl) ?_
  refine Tr.skipN (by kernel_rfl) ?_
  refine thenQ_n ?_
  refine Tr.seqN (by kernel_rfl) ?_
  refine Tr.regionN (by kernel_rfl) ?_
  refine TrAt.goS good 2 [(8, .pt 400100 0), (9, .ag [vI .i64 0, vI .i64 1])] [] (by kernel_rfl) ?_
  refine TrAt.lawP 10 _ _ (by kernel_rfl) (by kernel_rfl) (by kernel_rfl) (by kernel_rfl) (bsP_ok good (t := 33) (e := 50) (d := 10) (len := 1) (parts := #[(0, .tmp 9)]) (rows := ([(E50.mk 0 1)]).map en50) (by kernel_rfl) (by kernel_rfl) (by kernel_rfl) (by kernel_rfl) (by kernel_rfl) (by kernel_rfl)) ?_
  refine TrAt.goS good 1 [(11, .ag [vI .u32 3, vI .u32 1, .sl .e 10])] [] (by kernel_rfl) ?_
  obtain ⟨y1154, h1155, h0⟩ := bind_out h0
  refine TrAt.callD (caps := []) 12 (vI .i64 y1154.1) [(1000000, 400100), (1000001, 10)] [(500000, 400240)] (.func 14) #[.tmp 8, .tmp 11] #[23, 35] (ct_F14 k 3 1 0 ([(E50.mk 0 1)]) y1154 h1155) Try.func14 (by kernel_rfl) (by kernel_rfl) (by kernel_rfl) (by kernel_rfl) (by kernel_rfl) (by kernel_rfl) (by kernel_rfl) (by kernel_rfl) (by kernel_rfl) (by kernel_rfl) (by kernel_rfl) (by kernel_rfl) (by kernel_rfl) (by kernel_rfl) (by kernel_rfl) ?_
  refine TrAt.goS good 1 [(2, vI .i64 y1154.1)] [] (by kernel_rfl) ?_
  refine TrAt.end_ (by kernel_rfl) ?_
  refine thenQ_n ?_
  refine Tr.seqN (by kernel_rfl) ?_
  refine Tr.regionN (by kernel_rfl) ?_
  refine TrAt.goS good 3 [(13, .pt 400100 0), (14, .ag [vI .i64 0, vI .i64 2]), (15, .ag [vI .i64 1, vI .i64 1])] [] (by kernel_rfl) ?_
  refine TrAt.lawP 16 _ _ (by kernel_rfl) (by kernel_rfl) (by kernel_rfl) (by kernel_rfl) (bsP_ok good (t := 33) (e := 50) (d := 16) (len := 2) (parts := #[(0, .tmp 14), (1, .tmp 15)]) (rows := ([(E50.mk 0 2), (E50.mk 1 1)]).map en50) (by kernel_rfl) (by kernel_rfl) (by kernel_rfl) (by kernel_rfl) (by kernel_rfl) (by kernel_rfl)) ?_
  refine TrAt.goS good 1 [(17, .ag [vI .u32 5, vI .u32 5, .sl .e 16])] [] (by kernel_rfl) ?_
  obtain ⟨y1158, h1159, h0⟩ := bind_out h0
  refine TrAt.callD (caps := []) 18 (vI .i64 y1158.1) [(1000000, 400100), (1000001, 16), (1000002, 400240)] [(500000, 400360)] (.func 14) #[.tmp 13, .tmp 17] #[23, 35] (ct_F14_v1 k 5 5 y1154.2.1 ([(E50.mk 0 2), (E50.mk 1 1)]) y1154.2.2 y1158 h1159) Try.func14 (by kernel_rfl) (by kernel_rfl) (by kernel_rfl) (by kernel_rfl) (by kernel_rfl) (by kernel_rfl) (by kernel_rfl) (by kernel_rfl) (by kernel_rfl) (by kernel_rfl) (by kernel_rfl) (by kernel_rfl) (by kernel_rfl) (by kernel_rfl) (by kernel_rfl) ?_
  refine TrAt.goS good 1 [(3, vI .i64 y1158.1)] [] (by kernel_rfl) ?_
  refine TrAt.end_ (by kernel_rfl) ?_
  refine thenQ_n ?_
  refine Tr.seqN (by kernel_rfl) ?_
  refine Tr.conv (Conv.normT (keep := [1, 2, 3]) (ρ := [(400100, 300000), (400360, 300001)]) ⟨upd (upd (upd (deadT) 3 (vI .i64 y1158.1)) 2 (vI .i64 y1154.1)) 1 (.pt 300000 0), upd (upd (emptyS) 300001 (some (some (.ar 35 3 (y1158.2.2.map en35))))) 300000 (some (some (.bx 59 [.sl .n 300001, vI .u32 y1158.2.1]))), 53, []⟩ (by kernel_rfl)) ?_
  refine Tr.regionN (by kernel_rfl) ?_
  refine TrAt.goS good 1 [(19, .pt 300000 0)] [] (by kernel_rfl) ?_
  obtain ⟨y1162, h1163, h0⟩ := bind_out h0
  refine TrAt.callD (caps := []) 20 (.sl .n 400400) [(1000000, 300000), (1000001, 300001)] [(500000, 400400)] (.func 12) #[.tmp 19, .const (.int .i64 1)] #[23, 3] (ct_F12 k 1 y1158.2.1 y1158.2.2 y1162 h1163) Try.func12 (by kernel_rfl) (by kernel_rfl) (by kernel_rfl) (by kernel_rfl) (by kernel_rfl) (by kernel_rfl) (by kernel_rfl) (by kernel_rfl) (by kernel_rfl) (by kernel_rfl) (by kernel_rfl) (by kernel_rfl) (by kernel_rfl) (by kernel_rfl) (by kernel_rfl) ?_
  refine TrAt.goS good 1 [(4, .sl .n 400400)] [] (by kernel_rfl) ?_
  refine TrAt.end_ (by kernel_rfl) ?_
  refine thenQ_n ?_
  refine Tr.seqI (fun st => ∃ y1180, F9_1 k y1180 = some r ∧ st = ⟨upd (deadT) 0 (vB y1180), emptyS, 53, []⟩) (by kernel_rfl) ?_ ?_
  · refine Tr.regionN (by kernel_rfl) ?_
    refine TrAt.goS good 3 [(21, vI .i64 y1154.1), (22, vB (y1154.1 == 0)), (23, vB (y1154.1 == 0))] [] (by kernel_rfl) ?_
    cases g1181 : ((y1154.1 == 0) : Bool) with
    | true =>
      have h0 := cond_t g1181 h0
      refine TrAt.goS good 4 [(24, vI .i64 y1158.1), (25, vB (y1158.1 == 0)), (26, vB (y1158.1 == 0)), (27, vB (y1158.1 == 0))] [] (by kernel_rfl) ?_
      cases g1182 : ((y1158.1 == 0) : Bool) with
      | true =>
        have h0 := cond_t g1182 h0
        refine TrAt.goS good 1 [(28, .sl .n 400400)] [] (by kernel_rfl) ?_
        refine TrAt.lawP 29 _ _ (by kernel_rfl) (by kernel_rfl) (by kernel_rfl) (by kernel_rfl) (lenSl_ok good (t := 27) (e := 29) (x := .tmp 28) (nl := .n) (enc := en29) (xs := y1162) (nm := 400400) (e' := 29) (sz := 1) (by kernel_rfl) (by kernel_rfl) (by kernel_rfl) (by kernel_rfl)) ?_
        refine TrAt.goS good 3 [(30, vB ((y1162.length : Int) == 1)), (31, vB ((y1162.length : Int) == 1)), (32, vB ((y1162.length : Int) == 1))] [] (by kernel_rfl) ?_
        cases g1183 : (((y1162.length : Int) == 1) : Bool) with
        | true =>
          have h0 := cond_t g1183 h0
          refine TrAt.goS good 1 [(33, .sl .n 400400)] [] (by kernel_rfl) ?_
          obtain ⟨x1184, h1185, h0⟩ := bind_out h0
          obtain ⟨h1186, h1187⟩ := ix_out h1185
          refine TrAt.lawP 34 _ _ (by kernel_rfl) (by kernel_rfl) (by kernel_rfl) (by kernel_rfl) (ixSl_ok good (t := 27) (e := 29) (x := .tmp 33) (i := .const (.int .i64 0)) (nl := .n) (enc := en29) (xs := y1162) (k := .i64) (n := 0) (a := x1184) (nm := 400400) (e' := 29) (sz := 1) (by kernel_rfl) (by kernel_rfl) (by kernel_rfl) (by kernel_rfl) (by kernel_rfl) (by kernel_rfl) (by kernel_rfl) h1186 h1187) ?_
          refine TrAt.lawP 35 _ _ (by kernel_rfl) (by kernel_rfl) (by kernel_rfl) (by kernel_rfl) (loadPe_ok good (t := 29) (p := .tmp 34) (nm := 400400) (i := (0 : Int).toNat) (off := 0) (e' := 29) (sz := 1) (enc := en29) (xs := y1162) (a := x1184) (v := vI .u32 x1184) (by kernel_rfl) (by kernel_rfl) (by kernel_rfl) h1187 (by kernel_rfl)) ?_
          refine TrAt.goS good 3 [(36, vB (x1184 == 5)), (37, vB (x1184 == 5)), (38, vB (x1184 == 5))] [] (by kernel_rfl) ?_
          cases g1188 : ((x1184 == 5) : Bool) with
          | true =>
            have h0 := cond_t g1188 h0
            refine TrAt.goS good 1 [(39, .pt 300000 0)] [] (by kernel_rfl) ?_
            obtain ⟨y1189, h1190, h0⟩ := bind_out h0
            refine TrAt.callD (caps := []) 40 (vI .i64 y1189.1) [(1000000, 300000), (1000001, 300001)] [(500000, 400800)] (.func 17) #[.tmp 39, .const (.int .u32 3)] #[23, 29] (ct_F17 k 3 y1158.2.1 y1158.2.2 y1189 h1190) Try.func17 (by kernel_rfl) (by kernel_rfl) (by kernel_rfl) (by kernel_rfl) (by kernel_rfl) (by kernel_rfl) (by kernel_rfl) (by kernel_rfl) (by kernel_rfl) (by kernel_rfl) (by kernel_rfl) (by kernel_rfl) (by kernel_rfl) (by kernel_rfl) (by kernel_rfl) ?_
            refine TrAt.goS good 3 [(41, vB (y1189.1 == 1)), (42, vB (y1189.1 == 1)), (43, vB (y1189.1 == 1))] [] (by kernel_rfl) ?_
            cases g1191 : ((y1189.1 == 1) : Bool) with
            | true =>
              have h0 := cond_t g1191 h0
              refine TrAt.goS good 1 [(44, .pt 300000 0)] [] (by kernel_rfl) ?_
              obtain ⟨y1192, h1193, h0⟩ := bind_out h0
              refine TrAt.callD (caps := []) 45 (vI .u32 y1158.2.1) [(1000000, 300000), (1000001, 400800)] [] (.func 16) #[.tmp 44] #[23] (ct_F16 k y1158.2.1 y1189.2 y1192 h1193) Try.func16 (by kernel_rfl) (by kernel_rfl) (by kernel_rfl) (by kernel_rfl) (by kernel_rfl) (by kernel_rfl) (by kernel_rfl) (by kernel_rfl) (by kernel_rfl) (by kernel_rfl) (by kernel_rfl) (by kernel_rfl) (by kernel_rfl) (by kernel_rfl) (by kernel_rfl) ?_
              refine TrAt.goS good 3 [(46, vB (y1158.2.1 == 5)), (47, vB (y1158.2.1 == 5)), (48, vB (y1158.2.1 == 5))] [] (by kernel_rfl) ?_
              cases g1194 : ((y1158.2.1 == 5) : Bool) with
              | true =>
                have h0 := cond_t g1194 h0
                refine TrAt.goS good 1 [(49, .pt 300000 0)] [] (by kernel_rfl) ?_
                obtain ⟨y1195, h1196, h0⟩ := bind_out h0
                refine TrAt.callD (caps := []) 50 (vI .i64 (y1189.2.length : Int)) [(1000000, 300000), (1000001, 400800)] [] (.func 15) #[.tmp 49] #[23] (ct_F15 k y1158.2.1 y1189.2 y1195 h1196) Try.func15 (by kernel_rfl) (by kernel_rfl) (by kernel_rfl) (by kernel_rfl) (by kernel_rfl) (by kernel_rfl) (by kernel_rfl) (by kernel_rfl) (by kernel_rfl) (by kernel_rfl) (by kernel_rfl) (by kernel_rfl) (by kernel_rfl) (by kernel_rfl) (by kernel_rfl) ?_
                refine TrAt.goS good 3 [(51, vB ((y1189.2.length : Int) == 1)), (52, vB ((y1189.2.length : Int) == 1)), (0, vB ((y1189.2.length : Int) == 1))] [] (by kernel_rfl) ?_
                refine TrAt.conv (Conv.normT (keep := [0]) (ρ := []) ⟨upd (deadT) 0 (vB ((y1189.2.length : Int) == 1)), emptyS, 53, []⟩ (by kernel_rfl)) ?_
                refine TrAt.end_ (by kernel_rfl) ?_
                refine thenI_n ?_
                exact ⟨((y1189.2.length : Int) == 1), h0, rfl⟩
              | false =>
                have h0 := cond_f g1194 h0
                refine TrAt.goS good 5 [(49, .tp []), (50, .tp []), (51, .tp []), (52, vB false), (0, vB false)] [] (by kernel_rfl) ?_
                refine TrAt.conv (Conv.normT (keep := [0]) (ρ := []) ⟨upd (deadT) 0 (vB false), emptyS, 53, []⟩ (by kernel_rfl)) ?_
                refine TrAt.end_ (by kernel_rfl) ?_
                refine thenI_n ?_
                exact ⟨false, h0, rfl⟩
            | false =>
              have h0 := cond_f g1191 h0
              refine TrAt.goS good 10 [(44, .tp []), (45, .tp []), (46, .tp []), (47, vB false), (48, vB false), (49, .tp []), (50, .tp []), (51, .tp []), (52, vB false), (0, vB false)] [] (by kernel_rfl) ?_
              refine TrAt.conv (Conv.normT (keep := [0]) (ρ := []) ⟨upd (deadT) 0 (vB false), emptyS, 53, []⟩ (by kernel_rfl)) ?_
              refine TrAt.end_ (by kernel_rfl) ?_
              refine thenI_n ?_
              exact ⟨false, h0, rfl⟩
          | false =>
            have h0 := cond_f g1188 h0
            refine TrAt.goS good 15 [(39, .tp []), (40, .tp []), (41, .tp []), (42, vB false), (43, vB false), (44, .tp []), (45, .tp []), (46, .tp []), (47, vB false), (48, vB false), (49, .tp []), (50, .tp []), (51, .tp []), (52, vB false), (0, vB false)] [] (by kernel_rfl) ?_
            refine TrAt.conv (Conv.normT (keep := [0]) (ρ := []) ⟨upd (deadT) 0 (vB false), emptyS, 53, []⟩ (by kernel_rfl)) ?_
            refine TrAt.end_ (by kernel_rfl) ?_
            refine thenI_n ?_
            exact ⟨false, h0, rfl⟩
        | false =>
          have h0 := cond_f g1183 h0
          refine TrAt.goS good 21 [(33, .tp []), (34, .tp []), (35, .tp []), (36, .tp []), (37, vB false), (38, vB false), (39, .tp []), (40, .tp []), (41, .tp []), (42, vB false), (43, vB false), (44, .tp []), (45, .tp []), (46, .tp []), (47, vB false), (48, vB false), (49, .tp []), (50, .tp []), (51, .tp []), (52, vB false), (0, vB false)] [] (by kernel_rfl) ?_
          refine TrAt.conv (Conv.normT (keep := [0]) (ρ := []) ⟨upd (deadT) 0 (vB false), emptyS, 53, []⟩ (by kernel_rfl)) ?_
          refine TrAt.end_ (by kernel_rfl) ?_
          refine thenI_n ?_
          exact ⟨false, h0, rfl⟩
      | false =>
        have h0 := cond_f g1182 h0
        refine TrAt.goS good 26 [(28, .tp []), (29, .tp []), (30, .tp []), (31, vB false), (32, vB false), (33, .tp []), (34, .tp []), (35, .tp []), (36, .tp []), (37, vB false), (38, vB false), (39, .tp []), (40, .tp []), (41, .tp []), (42, vB false), (43, vB false), (44, .tp []), (45, .tp []), (46, .tp []), (47, vB false), (48, vB false), (49, .tp []), (50, .tp []), (51, .tp []), (52, vB false), (0, vB false)] [] (by kernel_rfl) ?_
        refine TrAt.conv (Conv.normT (keep := [0]) (ρ := []) ⟨upd (deadT) 0 (vB false), emptyS, 53, []⟩ (by kernel_rfl)) ?_
        refine TrAt.end_ (by kernel_rfl) ?_
        refine thenI_n ?_
        exact ⟨false, h0, rfl⟩
    | false =>
      have h0 := cond_f g1181 h0
      refine TrAt.goS good 30 [(24, .tp []), (25, .tp []), (26, vB false), (27, vB false), (28, .tp []), (29, .tp []), (30, .tp []), (31, vB false), (32, vB false), (33, .tp []), (34, .tp []), (35, .tp []), (36, .tp []), (37, vB false), (38, vB false), (39, .tp []), (40, .tp []), (41, .tp []), (42, vB false), (43, vB false), (44, .tp []), (45, .tp []), (46, .tp []), (47, vB false), (48, vB false), (49, .tp []), (50, .tp []), (51, .tp []), (52, vB false), (0, vB false)] [] (by kernel_rfl) ?_
      refine TrAt.conv (Conv.normT (keep := [0]) (ρ := []) ⟨upd (deadT) 0 (vB false), emptyS, 53, []⟩ (by kernel_rfl)) ?_
      refine TrAt.end_ (by kernel_rfl) ?_
      refine thenI_n ?_
      exact ⟨false, h0, rfl⟩
  · rintro st ⟨y1180, h0, rfl⟩
    unfold F9_1 at h0
    refine Tr.conv (Conv.normT (keep := [0]) (ρ := []) ⟨upd (deadT) 0 (vB y1180), emptyS, 53, []⟩ (by kernel_rfl)) ?_
    refine Tr.retN (by kernel_rfl) ?_
    cases h0
    exact finQ_r (by kernel_rfl) (by kernel_rfl)
def F14_v2 (k : Nat) (x1200 : Int) (x1201 : Int) (x1202 : (List E50)) : Option Unit :=
  some ()
theorem ct_F14_v2 (k : Nat) (x1200 : Int) (x1201 : Int) (x1202 : (List E50)) (r : Unit) (h0 : F14_v2 k x1200 x1201 x1202 = some r) : CTd Try.prog 14 [.t (.sc (.pointer none)), .ag [vI .u32 x1200, vI .u32 x1201, .sl .e 1000000]] [(1000000, .ar 50 2 (x1202.map en50))] (vI .i64 1) (upd (emptyS) 1000000 (some (some (.ar 50 2 (x1202.map en50))))) := by
  refine CTd.of_tr Try.f14 Try.func14 (by kernel_rfl) ?_
  unfold F14_v2 at h0
  refine Tr.conv (Conv.normT (keep := [0, 1]) (ρ := [(1000000, 1000000)]) ⟨upd (upd (deadT) 1 (.ag [vI .u32 x1200, vI .u32 x1201, .sl .e 1000000])) 0 (.t (.sc (.pointer none))), upd (emptyS) 1000000 (some (some (.ar 50 2 (x1202.map en50)))), 43, [1000000]⟩ (by kernel_rfl)) ?_
  refine Tr.seqN (by kernel_rfl) ?_
  refine Tr.regionN (by kernel_rfl) ?_
  refine TrAt.goS good 2 [(3, .pt 3 0), (4, vI .i64 0)] [(3, .bx 35 [vI .u32 x1200, vI .u32 x1201, .sl .e 1000000])] (by kernel_rfl) ?_
  refine TrAt.end_ (by kernel_rfl) ?_
  refine thenQ_n ?_
  refine Tr.seqN (by kernel_rfl) ?_
  refine Tr.blockN (by kernel_rfl) ?_
  refine Tr.seqN (by kernel_rfl) ?_
  refine Tr.regionN (by kernel_rfl) ?_
  refine TrAt.goS good 14 [(6, .t (.sc (.pointer none))), (7, vB true), (8, vB true), (9, .tp []), (10, .tp []), (11, .tp []), (12, vB true), (13, vB true), (14, .tp []), (15, .tp []), (16, .tp []), (17, .tp []), (18, vB true), (5, vB true)] [] (by kernel_rfl) ?_
  refine TrAt.end_ (by kernel_rfl) ?_
  refine thenQ_n ?_
  refine Tr.condT (by kernel_rfl) (by kernel_rfl) ?_
  refine Tr.seqN (by kernel_rfl) ?_
  refine Tr.conv (Conv.normT (keep := []) (ρ := [(1000000, 1000000)]) ⟨deadT, upd (emptyS) 1000000 (some (some (.ar 50 2 (x1202.map en50)))), 43, [1000000]⟩ (by kernel_rfl)) ?_
  refine Tr.regionN (by kernel_rfl) ?_
  refine TrAt.goS good 1 [(4, vI .i64 1)] [] (by kernel_rfl) ?_
  refine TrAt.end_ (by kernel_rfl) ?_
  refine thenQ_n ?_
  refine Tr.conv (Conv.normT (keep := [4]) (ρ := [(1000000, 1000000)]) ⟨upd (deadT) 4 (vI .i64 1), upd (emptyS) 1000000 (some (some (.ar 50 2 (x1202.map en50)))), 43, [1000000]⟩ (by kernel_rfl)) ?_
  refine Tr.retN (by kernel_rfl) ?_
  refine inBlockQ_r ?_
  refine thenQ_r ?_
  cases h0
  exact finQ_r (by kernel_rfl) (by kernel_rfl)
def F12_v1 (k : Nat) (x1205 : Int) : Option Unit :=
  some ()
theorem ct_F12_v1 (k : Nat) (x1205 : Int) (r : Unit) (h0 : F12_v1 k x1205 = some r) : CTd Try.prog 12 [.t (.sc (.pointer none)), vI .i64 x1205] [] (.t (.sc (.slice none 0 0))) (emptyS) := by
  refine CTd.of_tr Try.f12 Try.func12 (by kernel_rfl) ?_
  unfold F12_v1 at h0
  refine Tr.conv (Conv.normT (keep := [0, 1]) (ρ := []) ⟨upd (upd (deadT) 1 (vI .i64 x1205)) 0 (.t (.sc (.pointer none))), emptyS, 30, []⟩ (by kernel_rfl)) ?_
  refine Tr.seqN (by kernel_rfl) ?_
  refine Tr.regionN (by kernel_rfl) ?_
  refine TrAt.goS good 2 [(3, .pt 3 0), (4, .t (.sc (.slice none 0 0)))] [(3, .bx 3 [vI .i64 x1205])] (by kernel_rfl) ?_
  refine TrAt.end_ (by kernel_rfl) ?_
  refine thenQ_n ?_
  refine Tr.seqN (by kernel_rfl) ?_
  refine Tr.regionN (by kernel_rfl) ?_
  refine TrAt.goS good 1 [(5, .t (.sc (.slice none 0 0)))] [] (by kernel_rfl) ?_
  refine TrAt.end_ (by kernel_rfl) ?_
  refine thenQ_n ?_
  refine Tr.seqN (by kernel_rfl) ?_
  refine Tr.seqN (by kernel_rfl) ?_
  refine Tr.regionN (by kernel_rfl) ?_
  refine TrAt.goS good 2 [(8, .t (.sc (.pointer none))), (9, vB false)] [] (by kernel_rfl) ?_
  refine TrAt.end_ (by kernel_rfl) ?_
  refine thenQ_n ?_
  refine Tr.condF (by kernel_rfl) (by kernel_rfl) ?_
  refine Tr.skipN (by kernel_rfl) ?_
  refine thenQ_n ?_
  refine Tr.seqN (by kernel_rfl) ?_
  refine Tr.regionN (by kernel_rfl) ?_
  refine TrAt.goS good 2 [(29, .t (.sc (.slice none 0 0))), (4, .t (.sc (.slice none 0 0)))] [] (by kernel_rfl) ?_
  refine TrAt.end_ (by kernel_rfl) ?_
  refine thenQ_n ?_
  refine Tr.conv (Conv.normT (keep := [4]) (ρ := []) ⟨upd (deadT) 4 (.t (.sc (.slice none 0 0))), emptyS, 30, []⟩ (by kernel_rfl)) ?_
  refine Tr.retN (by kernel_rfl) ?_
  cases h0
  exact finQ_r (by kernel_rfl) (by kernel_rfl)
def F17_v1 (k : Nat) (x1208 : Int) : Option Unit :=
  some ()
theorem ct_F17_v1 (k : Nat) (x1208 : Int) (r : Unit) (h0 : F17_v1 k x1208 = some r) : CTd Try.prog 17 [.t (.sc (.pointer none)), vI .u32 x1208] [] (vI .i64 0) (emptyS) := by
  refine CTd.of_tr Try.f17 Try.func17 (by kernel_rfl) ?_
  unfold F17_v1 at h0
  refine Tr.conv (Conv.normT (keep := [0, 1]) (ρ := []) ⟨upd (upd (deadT) 1 (vI .u32 x1208)) 0 (.t (.sc (.pointer none))), emptyS, 40, []⟩ (by kernel_rfl)) ?_
  refine Tr.seqN (by kernel_rfl) ?_
  refine Tr.regionN (by kernel_rfl) ?_
  refine TrAt.goS good 1 [(4, vI .i64 0)] [] (by kernel_rfl) ?_
  refine TrAt.end_ (by kernel_rfl) ?_
  refine thenQ_n ?_
  refine Tr.seqN (by kernel_rfl) ?_
  refine Tr.seqN (by kernel_rfl) ?_
  refine Tr.regionN (by kernel_rfl) ?_
  refine TrAt.goS good 2 [(6, .t (.sc (.pointer none))), (7, vB true)] [] (by kernel_rfl) ?_
  refine TrAt.end_ (by kernel_rfl) ?_
  refine thenQ_n ?_
  refine Tr.condT (by kernel_rfl) (by kernel_rfl) ?_
  refine Tr.seqN (by kernel_rfl) ?_
  refine Tr.regionN (by kernel_rfl) ?_
  refine TrAt.goS good 1 [(4, vI .i64 0)] [] (by kernel_rfl) ?_
  refine TrAt.end_ (by kernel_rfl) ?_
  refine thenQ_n ?_
  refine Tr.conv (Conv.normT (keep := [4]) (ρ := []) ⟨upd (deadT) 4 (vI .i64 0), emptyS, 40, []⟩ (by kernel_rfl)) ?_
  refine Tr.retN (by kernel_rfl) ?_
  refine thenQ_r ?_
  cases h0
  exact finQ_r (by kernel_rfl) (by kernel_rfl)
def F15_v1 (k : Nat)  : Option Unit :=
  some ()
theorem ct_F15_v1 (k : Nat)  (r : Unit) (h0 : F15_v1 k = some r) : CTd Try.prog 15 [.t (.sc (.pointer none))] [] (vI .i64 0) (emptyS) := by
  refine CTd.of_tr Try.f15 Try.func15 (by kernel_rfl) ?_
  unfold F15_v1 at h0
  refine Tr.conv (Conv.normT (keep := [0]) (ρ := []) ⟨upd (deadT) 0 (.t (.sc (.pointer none))), emptyS, 10, []⟩ (by kernel_rfl)) ?_
  refine Tr.seqN (by kernel_rfl) ?_
  refine Tr.regionN (by kernel_rfl) ?_
  refine TrAt.goS good 1 [(2, vI .i64 0)] [] (by kernel_rfl) ?_
  refine TrAt.end_ (by kernel_rfl) ?_
  refine thenQ_n ?_
  refine Tr.seqN (by kernel_rfl) ?_
  refine Tr.seqN (by kernel_rfl) ?_
  refine Tr.regionN (by kernel_rfl) ?_
  refine TrAt.goS good 2 [(3, .t (.sc (.pointer none))), (4, vB true)] [] (by kernel_rfl) ?_
  refine TrAt.end_ (by kernel_rfl) ?_
  refine thenQ_n ?_
  refine Tr.condT (by kernel_rfl) (by kernel_rfl) ?_
  refine Tr.seqN (by kernel_rfl) ?_
  refine Tr.regionN (by kernel_rfl) ?_
  refine TrAt.goS good 1 [(2, vI .i64 0)] [] (by kernel_rfl) ?_
  refine TrAt.end_ (by kernel_rfl) ?_
  refine thenQ_n ?_
  refine Tr.conv (Conv.normT (keep := [2]) (ρ := []) ⟨upd (deadT) 2 (vI .i64 0), emptyS, 10, []⟩ (by kernel_rfl)) ?_
  refine Tr.retN (by kernel_rfl) ?_
  refine thenQ_r ?_
  cases h0
  exact finQ_r (by kernel_rfl) (by kernel_rfl)
def F16_v1 (k : Nat)  : Option Unit :=
  some ()
theorem ct_F16_v1 (k : Nat)  (r : Unit) (h0 : F16_v1 k = some r) : CTd Try.prog 16 [.t (.sc (.pointer none))] [] (vI .u32 0) (emptyS) := by
  refine CTd.of_tr Try.f16 Try.func16 (by kernel_rfl) ?_
  unfold F16_v1 at h0
  refine Tr.conv (Conv.normT (keep := [0]) (ρ := []) ⟨upd (deadT) 0 (.t (.sc (.pointer none))), emptyS, 9, []⟩ (by kernel_rfl)) ?_
  refine Tr.seqN (by kernel_rfl) ?_
  refine Tr.regionN (by kernel_rfl) ?_
  refine TrAt.goS good 1 [(2, vI .u32 0)] [] (by kernel_rfl) ?_
  refine TrAt.end_ (by kernel_rfl) ?_
  refine thenQ_n ?_
  refine Tr.seqN (by kernel_rfl) ?_
  refine Tr.seqN (by kernel_rfl) ?_
  refine Tr.regionN (by kernel_rfl) ?_
  refine TrAt.goS good 2 [(3, .t (.sc (.pointer none))), (4, vB true)] [] (by kernel_rfl) ?_
  refine TrAt.end_ (by kernel_rfl) ?_
  refine thenQ_n ?_
  refine Tr.condT (by kernel_rfl) (by kernel_rfl) ?_
  refine Tr.seqN (by kernel_rfl) ?_
  refine Tr.regionN (by kernel_rfl) ?_
  refine TrAt.goS good 1 [(2, vI .u32 0)] [] (by kernel_rfl) ?_
  refine TrAt.end_ (by kernel_rfl) ?_
  refine thenQ_n ?_
  refine Tr.conv (Conv.normT (keep := [2]) (ρ := []) ⟨upd (deadT) 2 (vI .u32 0), emptyS, 9, []⟩ (by kernel_rfl)) ?_
  refine Tr.retN (by kernel_rfl) ?_
  refine thenQ_r ?_
  cases h0
  exact finQ_r (by kernel_rfl) (by kernel_rfl)
def F7_1 (k : Nat) (y1232 : Bool) : Option Bool :=
  some y1232
def F7 (k : Nat) (x1 : Int) (x2 : Int) : Option Bool :=
  (F19 k x2).bind fun y1230 =>
  (F9 k).bind fun y1233 =>
  cond y1233 ((F14_v2 k 1 0 ([(E50.mk 0 0)])).bind fun y1236 =>
  (F12_v1 k x1).bind fun y1238 =>
  (F17_v1 k x2).bind fun y1240 =>
  (F15_v1 k).bind fun y1242 =>
  (F16_v1 k).bind fun y1244 =>
  F7_1 k true) (F7_1 k false)
theorem ct_F7 (k : Nat) (x1 : Int) (x2 : Int) (r : Bool) (h0 : F7 k x1 x2 = some r) : CTd Try.prog 7 [vI .i64 x1, vI .u32 x2] [] (vB r) (emptyS) := by
  refine CTd.of_tr Try.f7 Try.func7 (by kernel_rfl) ?_
  unfold F7 at h0
  refine Tr.conv (Conv.normT (keep := [0, 1]) (ρ := []) ⟨upd (upd (deadT) 1 (vI .u32 x2)) 0 (vI .i64 x1), emptyS, 50, []⟩ (by kernel_rfl)) ?_
  refine Tr.seqN (by kernel_rfl) ?_
  refine Tr.regionN (by kernel_rfl) ?_
  refine TrAt.goS good 1 [(4, vB false)] [] (by kernel_rfl) ?_
  refine TrAt.end_ (by kernel_rfl) ?_
  refine thenQ_n ?_
  refine Tr.seqN (by kernel_rfl) ?_
  refine Tr.regionN (by kernel_rfl) ?_
  refine TrAt.goS good 1 [(5, .t (.sc (.pointer none)))] [] (by kernel_rfl) ?_
  refine TrAt.end_ (by kernel_rfl) ?_
  refine thenQ_n ?_
  refine Tr.seqN (by kernel_rfl) ?_
  refine Tr.regionN (by kernel_rfl) ?_
  refine TrAt.goS good 2 [(9, .t (.sc (.pointer none))), (10, vI .u32 x2)] [] (by kernel_rfl) ?_
  obtain ⟨y1230, h1231, h0⟩ := bind_out h0
  refine TrAt.callD (caps := []) 11 (.tp [.ag [vI .u32 0, vI .u32 0, .t (.sc (.slice none 0 0))], vB false]) [] [(500000, 400220)] (.func 19) #[.tmp 9, .tmp 10] #[23, 29] (ct_F19 k x2 y1230 h1231) Try.func19 (by kernel_rfl) (by kernel_rfl) (by kernel_rfl) (by kernel_rfl) (by kernel_rfl) (by kernel_rfl) (by kernel_rfl) (by kernel_rfl) (by kernel_rfl) (by kernel_rfl) (by kernel_rfl) (by kernel_rfl) (by kernel_rfl) (by kernel_rfl) (by kernel_rfl) ?_
  refine TrAt.goS good 6 [(8, .tp [.ag [vI .u32 0, vI .u32 0, .t (.sc (.slice none 0 0))], vB false]), (12, .ag [vI .u32 0, vI .u32 0, .t (.sc (.slice none 0 0))]), (13, vB false), (6, .pt 6 0), (7, vB false)] [(6, .bx 35 [vI .u32 0, vI .u32 0, .t (.sc (.slice none 0 0))]), (6, .bx 35 [vI .u32 0, vI .u32 0, .t (.sc (.slice none 0 0))])] (by kernel_rfl) ?_
  refine TrAt.end_ (by kernel_rfl) ?_
  refine thenQ_n ?_
  refine Tr.seqI (fun st => ∃ y1232, F7_1 k y1232 = some r ∧ st = ⟨upd (deadT) 4 (vB y1232), emptyS, 50, []⟩) (by kernel_rfl) ?_ ?_
  · refine Tr.regionN (by kernel_rfl) ?_
    obtain ⟨y1233, h1234, h0⟩ := bind_out h0
    refine TrAt.callD (caps := []) 14 (vB y1233) [] [] (.func 9) #[] #[] (ct_F9 k y1233 h1234) Try.func9 (by kernel_rfl) (by kernel_rfl) (by kernel_rfl) (by kernel_rfl) (by kernel_rfl) (by kernel_rfl) (by kernel_rfl) (by kernel_rfl) (by kernel_rfl) (by kernel_rfl) (by kernel_rfl) (by kernel_rfl) (by kernel_rfl) (by kernel_rfl) (by kernel_rfl) ?_
    refine TrAt.goS good 1 [(15, vB y1233)] [] (by kernel_rfl) ?_
    cases g1235 : (y1233 : Bool) with
    | true =>
      have h0 := cond_t g1235 h0
      refine TrAt.goS good 6 [(16, vB false), (17, vB true), (18, vB true), (19, vB true), (20, .t (.sc (.pointer none))), (21, .ag [vI .i64 0, vI .i64 0])] [] (by kernel_rfl) ?_
      refine TrAt.lawP 22 _ _ (by kernel_rfl) (by kernel_rfl) (by kernel_rfl) (by kernel_rfl) (bsP_ok good (t := 33) (e := 50) (d := 22) (len := 1) (parts := #[(0, .tmp 21)]) (rows := ([(E50.mk 0 0)]).map en50) (by kernel_rfl) (by kernel_rfl) (by kernel_rfl) (by kernel_rfl) (by kernel_rfl) (by kernel_rfl)) ?_
      refine TrAt.goS good 1 [(23, .ag [vI .u32 1, vI .u32 0, .sl .e 22])] [] (by kernel_rfl) ?_
      obtain ⟨y1236, h1237, h0⟩ := bind_out h0
      refine TrAt.callD (caps := []) 24 (vI .i64 1) [(1000000, 22)] [] (.func 14) #[.tmp 20, .tmp 23] #[23, 35] (ct_F14_v2 k 1 0 ([(E50.mk 0 0)]) y1236 h1237) Try.func14 (by kernel_rfl) (by kernel_rfl) (by kernel_rfl) (by kernel_rfl) (by kernel_rfl) (by kernel_rfl) (by kernel_rfl) (by kernel_rfl) (by kernel_rfl) (by kernel_rfl) (by kernel_rfl) (by kernel_rfl) (by kernel_rfl) (by kernel_rfl) (by kernel_rfl) ?_
      refine TrAt.goS good 5 [(25, vB true), (26, vB true), (27, vB true), (28, .t (.sc (.pointer none))), (29, vI .i64 x1)] [] (by kernel_rfl) ?_
      obtain ⟨y1238, h1239, h0⟩ := bind_out h0
      refine TrAt.callD (caps := []) 30 (.t (.sc (.slice none 0 0))) [] [] (.func 12) #[.tmp 28, .tmp 29] #[23, 3] (ct_F12_v1 k x1 y1238 h1239) Try.func12 (by kernel_rfl) (by kernel_rfl) (by kernel_rfl) (by kernel_rfl) (by kernel_rfl) (by kernel_rfl) (by kernel_rfl) (by kernel_rfl) (by kernel_rfl) (by kernel_rfl) (by kernel_rfl) (by kernel_rfl) (by kernel_rfl) (by kernel_rfl) (by kernel_rfl) ?_
      refine TrAt.goS good 6 [(31, vI .i64 0), (32, vB true), (33, vB true), (34, vB true), (35, .t (.sc (.pointer none))), (36, vI .u32 x2)] [] (by kernel_rfl) ?_
      obtain ⟨y1240, h1241, h0⟩ := bind_out h0
      refine TrAt.callD (caps := []) 37 (vI .i64 0) [] [] (.func 17) #[.tmp 35, .tmp 36] #[23, 29] (ct_F17_v1 k x2 y1240 h1241) Try.func17 (by kernel_rfl) (by kernel_rfl) (by kernel_rfl) (by kernel_rfl) (by kernel_rfl) (by kernel_rfl) (by kernel_rfl) (by kernel_rfl) (by kernel_rfl) (by kernel_rfl) (by kernel_rfl) (by kernel_rfl) (by kernel_rfl) (by kernel_rfl) (by kernel_rfl) ?_
      refine TrAt.goS good 4 [(38, vB true), (39, vB true), (40, vB true), (41, .t (.sc (.pointer none)))] [] (by kernel_rfl) ?_
      obtain ⟨y1242, h1243, h0⟩ := bind_out h0
      refine TrAt.callD (caps := []) 42 (vI .i64 0) [] [] (.func 15) #[.tmp 41] #[23] (ct_F15_v1 k y1242 h1243) Try.func15 (by kernel_rfl) (by kernel_rfl) (by kernel_rfl) (by kernel_rfl) (by kernel_rfl) (by kernel_rfl) (by kernel_rfl) (by kernel_rfl) (by kernel_rfl) (by kernel_rfl) (by kernel_rfl) (by kernel_rfl) (by kernel_rfl) (by kernel_rfl) (by kernel_rfl) ?_
      refine TrAt.goS good 4 [(43, vB true), (44, vB true), (45, vB true), (46, .t (.sc (.pointer none)))] [] (by kernel_rfl) ?_
      obtain ⟨y1244, h1245, h0⟩ := bind_out h0
      refine TrAt.callD (caps := []) 47 (vI .u32 0) [] [] (.func 16) #[.tmp 46] #[23] (ct_F16_v1 k y1244 h1245) Try.func16 (by kernel_rfl) (by kernel_rfl) (by kernel_rfl) (by kernel_rfl) (by kernel_rfl) (by kernel_rfl) (by kernel_rfl) (by kernel_rfl) (by kernel_rfl) (by kernel_rfl) (by kernel_rfl) (by kernel_rfl) (by kernel_rfl) (by kernel_rfl) (by kernel_rfl) ?_
      refine TrAt.goS good 3 [(48, vB true), (49, vB true), (4, vB true)] [] (by kernel_rfl) ?_
      refine TrAt.conv (Conv.normT (keep := [4]) (ρ := []) ⟨upd (deadT) 4 (vB true), emptyS, 50, []⟩ (by kernel_rfl)) ?_
      refine TrAt.end_ (by kernel_rfl) ?_
      refine thenI_n ?_
      exact ⟨true, h0, rfl⟩
    | false =>
      have h0 := cond_f g1235 h0
      refine TrAt.goS good 35 [(16, .tp []), (17, .tp []), (18, vB false), (19, vB false), (20, .tp []), (21, .tp []), (22, .tp []), (23, .tp []), (24, .tp []), (25, .tp []), (26, vB false), (27, vB false), (28, .tp []), (29, .tp []), (30, .tp []), (31, .tp []), (32, .tp []), (33, vB false), (34, vB false), (35, .tp []), (36, .tp []), (37, .tp []), (38, .tp []), (39, vB false), (40, vB false), (41, .tp []), (42, .tp []), (43, .tp []), (44, vB false), (45, vB false), (46, .tp []), (47, .tp []), (48, .tp []), (49, vB false), (4, vB false)] [] (by kernel_rfl) ?_
      refine TrAt.conv (Conv.normT (keep := [4]) (ρ := []) ⟨upd (deadT) 4 (vB false), emptyS, 50, []⟩ (by kernel_rfl)) ?_
      refine TrAt.end_ (by kernel_rfl) ?_
      refine thenI_n ?_
      exact ⟨false, h0, rfl⟩
  · rintro st ⟨y1232, h0, rfl⟩
    unfold F7_1 at h0
    refine Tr.conv (Conv.normT (keep := [4]) (ρ := []) ⟨upd (deadT) 4 (vB y1232), emptyS, 50, []⟩ (by kernel_rfl)) ?_
    refine Tr.retN (by kernel_rfl) ?_
    cases h0
    exact finQ_r (by kernel_rfl) (by kernel_rfl)
def F10_1 (k : Nat) (y1290 : Int) : Option Int :=
  some y1290
def F10 (k : Nat) (x1281 : Int) (x1282 : Int) : Option Int :=
  grd (x1282 != 0) <|
  cond (decide ((Int.tmod x1281 x1282) < 0)) (F10_1 k (IntKind.wrap .i64 ((Int.tmod x1281 x1282) + x1282))) (F10_1 k (Int.tmod x1281 x1282))
theorem ct_F10 (k : Nat) (x1281 : Int) (x1282 : Int) (r : Int) (h0 : F10 k x1281 x1282 = some r) : CTd Try.prog 10 [vI .i64 x1281, vI .i64 x1282] [] (vI .i64 r) (emptyS) := by
  refine CTd.of_tr Try.f10 Try.func10 (by kernel_rfl) ?_
  unfold F10 at h0
  refine Tr.conv (Conv.normT (keep := [0, 1]) (ρ := []) ⟨upd (upd (deadT) 1 (vI .i64 x1282)) 0 (vI .i64 x1281), emptyS, 14, []⟩ (by kernel_rfl)) ?_
  refine Tr.seqN (by kernel_rfl) ?_
  refine Tr.regionN (by kernel_rfl) ?_
  refine TrAt.goS good 1 [(4, vI .i64 0)] [] (by kernel_rfl) ?_
  refine TrAt.end_ (by kernel_rfl) ?_
  refine thenQ_n ?_
  refine Tr.seqN (by kernel_rfl) ?_
  refine Tr.regionN (by kernel_rfl) ?_
  refine TrAt.goS good 2 [(5, vI .i64 x1281), (6, vI .i64 x1282)] [] (by kernel_rfl) ?_
  obtain ⟨g1289, h0⟩ := grd_out h0
  refine TrAt.lawP 7 _ _ (by kernel_rfl) (by kernel_rfl) (by kernel_rfl) (by kernel_rfl) (rem_ok good (t := 3) (q := 3) (x := .tmp 5) (y := .tmp 6) (k := .i64) (a := x1281) (b := x1282) (by kernel_rfl) (by kernel_rfl) (by kernel_rfl) g1289) ?_
  refine TrAt.goS good 1 [(0, vI .i64 (Int.tmod x1281 x1282))] [] (by kernel_rfl) ?_
  refine TrAt.end_ (by kernel_rfl) ?_
  refine thenQ_n ?_
  refine Tr.seqI (fun st => ∃ y1290, F10_1 k y1290 = some r ∧ st = ⟨upd (deadT) 0 (vI .i64 y1290), emptyS, 14, []⟩) (by kernel_rfl) ?_ ?_
  · refine Tr.seqN (by kernel_rfl) ?_
    refine Tr.regionN (by kernel_rfl) ?_
    refine TrAt.goS good 2 [(8, vI .i64 (Int.tmod x1281 x1282)), (9, vB (decide ((Int.tmod x1281 x1282) < 0)))] [] (by kernel_rfl) ?_
    refine TrAt.end_ (by kernel_rfl) ?_
    refine thenQ_n ?_
    refine Tr.condN (decide ((Int.tmod x1281 x1282) < 0)) (by kernel_rfl) (by kernel_rfl) ?_ ?_
    · intro g1291
      have h0 := cond_t g1291 h0
      refine Tr.regionN (by kernel_rfl) ?_
      refine TrAt.goS good 4 [(10, vI .i64 (Int.tmod x1281 x1282)), (11, vI .i64 x1282), (12, vI .i64 (IntKind.wrap .i64 ((Int.tmod x1281 x1282) + x1282))), (0, vI .i64 (IntKind.wrap .i64 ((Int.tmod x1281 x1282) + x1282)))] [] (by kernel_rfl) ?_
      refine TrAt.conv (Conv.normT (keep := [0]) (ρ := []) ⟨upd (deadT) 0 (vI .i64 (IntKind.wrap .i64 ((Int.tmod x1281 x1282) + x1282))), emptyS, 14, []⟩ (by kernel_rfl)) ?_
      refine TrAt.end_ (by kernel_rfl) ?_
      refine thenI_n ?_
      exact ⟨(IntKind.wrap .i64 ((Int.tmod x1281 x1282) + x1282)), h0, rfl⟩
    · intro g1291
      have h0 := cond_f g1291 h0
      refine Tr.conv (Conv.normT (keep := [0]) (ρ := []) ⟨upd (deadT) 0 (vI .i64 (Int.tmod x1281 x1282)), emptyS, 14, []⟩ (by kernel_rfl)) ?_
      refine Tr.skipN (by kernel_rfl) ?_
      refine thenI_n ?_
      exact ⟨(Int.tmod x1281 x1282), h0, rfl⟩
  · rintro st ⟨y1290, h0, rfl⟩
    unfold F10_1 at h0
    refine Tr.seqN (by kernel_rfl) ?_
    refine Tr.regionN (by kernel_rfl) ?_
    refine TrAt.goS good 2 [(13, vI .i64 y1290), (4, vI .i64 y1290)] [] (by kernel_rfl) ?_
    refine TrAt.end_ (by kernel_rfl) ?_
    refine thenQ_n ?_
    refine Tr.conv (Conv.normT (keep := [4]) (ρ := []) ⟨upd (deadT) 4 (vI .i64 y1290), emptyS, 14, []⟩ (by kernel_rfl)) ?_
    refine Tr.retN (by kernel_rfl) ?_
    cases h0
    exact finQ_r (by kernel_rfl) (by kernel_rfl)
def F30_v1 (k : Nat) (x1840 : (List E50)) : Option (List E50) :=
  grd (decide ((([] : List E50).length + x1840.length) * 16 ≤ 140737488355328)) <|
  some (([] : List E50) ++ x1840)
theorem ct_F30_v1 (k : Nat) (x1840 : (List E50)) (r : (List E50)) (h0 : F30_v1 k x1840 = some r) : CTd Try.prog 30 [.sl .u 1000000] [(1000000, .ar 50 2 (x1840.map en50))] (.sl .u 500000) (upd (upd (emptyS) 500000 (some (some (.ar 50 2 (r.map en50))))) 1000000 (some (some (.ar 50 2 (x1840.map en50))))) := by
  refine CTd.of_tr Try.f30 Try.func30 (by kernel_rfl) ?_
  unfold F30_v1 at h0
  refine Tr.conv (Conv.normT (keep := [0]) (ρ := [(1000000, 1000000)]) ⟨upd (deadT) 0 (.sl .u 1000000), upd (emptyS) 1000000 (some (some (.ar 50 2 (x1840.map en50)))), 8, [1000000]⟩ (by kernel_rfl)) ?_
  refine Tr.seqN (by kernel_rfl) ?_
  refine Tr.regionN (by kernel_rfl) ?_
  refine TrAt.goS good 1 [(2, .t (.sc (.slice none 0 0)))] [] (by kernel_rfl) ?_
  refine TrAt.end_ (by kernel_rfl) ?_
  refine thenQ_n ?_
  refine Tr.seqN (by kernel_rfl) ?_
  refine Tr.seqN (by kernel_rfl) ?_
  refine Tr.regionN (by kernel_rfl) ?_
  refine TrAt.goS good 1 [(3, .sl .u 1000000)] [] (by kernel_rfl) ?_
  refine TrAt.nilSl 3 1000000 50 2 (x1840.map en50) (by kernel_rfl) (by kernel_rfl) (fun h1847 => ?_) ?_
  · refine TrAt.goS good 1 [(4, vB true)] [] (by kernel_rfl) ?_
    refine TrAt.end_ (by kernel_rfl) ?_
    refine thenQ_n ?_
    refine Tr.condT (by kernel_rfl) (by kernel_rfl) ?_
    refine Tr.seqN (by kernel_rfl) ?_
    refine Tr.regionN (by kernel_rfl) ?_
    refine TrAt.goS good 1 [(2, .t (.sc (.slice none 0 0)))] [] (by kernel_rfl) ?_
    refine TrAt.end_ (by kernel_rfl) ?_
    refine thenQ_n ?_
    refine Tr.conv (Conv.nilSl 2 200016 50 2 (by kernel_rfl) (by kernel_rfl) (by kernel_rfl)) ?_
    refine Tr.conv (Conv.weak 2 (.sl .n 200016) (.sl .u 200016) (by kernel_rfl) (.sl _ _)) ?_
    refine Tr.conv (Conv.normT (keep := [2]) (ρ := [(1000000, 1000000), (200016, 500000)]) ⟨upd (deadT) 2 (.sl .u 500000), upd (upd (emptyS) 500000 (some (some (.ar 50 2 (([]).map en50))))) 1000000 (some (some (.ar 50 2 (x1840.map en50)))), 8, [1000000]⟩ (by kernel_rfl)) ?_
    refine Tr.retN (by kernel_rfl) ?_
    refine thenQ_r ?_
    have h1847 := map_nil_of h1847
    subst h1847
    cases h0
    exact finQ_r (by kernel_rfl) (by kernel_rfl)
  · refine TrAt.goS good 1 [(4, vB false)] [] (by kernel_rfl) ?_
    refine TrAt.end_ (by kernel_rfl) ?_
    refine thenQ_n ?_
    refine Tr.condF (by kernel_rfl) (by kernel_rfl) ?_
    refine Tr.skipN (by kernel_rfl) ?_
    refine thenQ_n ?_
    refine Tr.seqN (by kernel_rfl) ?_
    refine Tr.regionN (by kernel_rfl) ?_
    refine TrAt.lawP 5 _ _ (by kernel_rfl) (by kernel_rfl) (by kernel_rfl) (by kernel_rfl) (bsP_ok good (t := 33) (e := 50) (d := 5) (len := 0) (parts := #[]) (rows := (([] : List E50)).map en50) (by kernel_rfl) (by kernel_rfl) (by kernel_rfl) (by kernel_rfl) (by kernel_rfl) (by kernel_rfl)) ?_
    refine TrAt.goS good 1 [(6, .sl .u 1000000)] [] (by kernel_rfl) ?_
    obtain ⟨g1848, h0⟩ := grd_out h0
    refine TrAt.lawP 7 _ _ (by kernel_rfl) (by kernel_rfl) (by kernel_rfl) (by kernel_rfl) (apP_ok good (x := .tmp 5) (y := .tmp 6) (t := 33) (e := 50) (d := 7) (nl := .e) (enc := en50) (xs := ([] : List E50)) (ys := x1840) (oo := (some 5)) (bz := 16) (by kernel_rfl) (by kernel_rfl) (by kernel_rfl) (by kernel_rfl) (by kernel_rfl) (by kernel_rfl) wide50 (by kernel_rfl) g1848) ?_
    refine TrAt.goS good 1 [(2, .sl .e 7)] [] (by kernel_rfl) ?_
    refine TrAt.end_ (by kernel_rfl) ?_
    refine thenQ_n ?_
    refine Tr.conv (Conv.weak 2 (.sl .e 7) (.sl .u 7) (by kernel_rfl) (.sl _ _)) ?_
    refine Tr.conv (Conv.normT (keep := [2]) (ρ := [(1000000, 1000000), (7, 500000)]) ⟨upd (deadT) 2 (.sl .u 500000), upd (upd (emptyS) 500000 (some (some (.ar 50 2 ((([] : List E50) ++ x1840).map en50))))) 1000000 (some (some (.ar 50 2 (x1840.map en50)))), 8, [1000000]⟩ (by kernel_rfl)) ?_
    refine Tr.retN (by kernel_rfl) ?_
    cases h0
    exact finQ_r (by kernel_rfl) (by kernel_rfl)
def F26_v1 (k : Nat) (x1837 : Int) (x1838 : Int) (x1839 : (List E50)) : Option (List E50) :=
  (F30_v1 k x1839).bind fun y1854 =>
  some y1854
theorem ct_F26_v1 (k : Nat) (x1837 : Int) (x1838 : Int) (x1839 : (List E50)) (r : (List E50)) (h0 : F26_v1 k x1837 x1838 x1839 = some r) : CTd Try.prog 26 [.ag [vI .u32 x1837, vI .u32 x1838, .sl .u 1000000]] [(1000000, .ar 50 2 (x1839.map en50))] (.ag [vI .u32 x1837, vI .u32 x1838, .t (.fz .u (r.map en50))]) (upd (upd (emptyS) 500000 (some (some (.bx 35 [vI .u32 x1837, vI .u32 x1838, .t (.fz .u (r.map en50))])))) 1000000 (some (some (.ar 50 2 (x1839.map en50))))) := by
  refine CTd.of_tr Try.f26 Try.func26 (by kernel_rfl) ?_
  unfold F26_v1 at h0
  refine Tr.conv (Conv.normT (keep := [0]) (ρ := [(1000000, 1000000)]) ⟨upd (deadT) 0 (.ag [vI .u32 x1837, vI .u32 x1838, .sl .u 1000000]), upd (emptyS) 1000000 (some (some (.ar 50 2 (x1839.map en50)))), 8, [1000000]⟩ (by kernel_rfl)) ?_
  refine Tr.seqN (by kernel_rfl) ?_
  refine Tr.regionN (by kernel_rfl) ?_
  refine TrAt.goS good 2 [(1, .pt 1 0), (2, .pt 2 0)] [(1, .bx 35 [vI .u32 x1837, vI .u32 x1838, .sl .u 1000000]), (2, .bx 35 [vI .u32 0, vI .u32 0, .t (.sc (.slice none 0 0))])] (by kernel_rfl) ?_
  refine TrAt.end_ (by kernel_rfl) ?_
  refine thenQ_n ?_
  refine Tr.seqN (by kernel_rfl) ?_
  refine Tr.regionN (by kernel_rfl) ?_
  refine TrAt.goS good 2 [(3, .pt 1 2), (4, .sl .u 1000000)] [] (by kernel_rfl) ?_
  obtain ⟨y1854, h1855, h0⟩ := bind_out h0
  refine TrAt.callD (caps := []) 5 (.sl .u 400100) [(1000000, 1000000)] [(500000, 400100)] (.func 30) #[.tmp 4] #[33] (ct_F30_v1 k x1839 y1854 h1855) Try.func30 (by kernel_rfl) (by kernel_rfl) (by kernel_rfl) (by kernel_rfl) (by kernel_rfl) (by kernel_rfl) (by kernel_rfl) (by kernel_rfl) (by kernel_rfl) (by kernel_rfl) (by kernel_rfl) (by kernel_rfl) (by kernel_rfl) (by kernel_rfl) (by kernel_rfl) ?_
  refine TrAt.goS good 2 [(6, .pt 1 2)] [(1, .bx 35 [vI .u32 x1837, vI .u32 x1838, .sl .u 400100])] (by kernel_rfl) ?_
  refine TrAt.end_ (by kernel_rfl) ?_
  refine thenQ_n ?_
  refine Tr.seqN (by kernel_rfl) ?_
  refine Tr.regionN (by kernel_rfl) ?_
  refine TrAt.goS good 2 [(7, .ag [vI .u32 x1837, vI .u32 x1838, .sl .u 400100])] [(2, .bx 35 [vI .u32 x1837, vI .u32 x1838, .sl .u 400100])] (by kernel_rfl) ?_
  refine TrAt.end_ (by kernel_rfl) ?_
  refine thenQ_n ?_
  refine Tr.conv (Conv.freezeP 400100 50 2 (y1854.map en50) (by kernel_rfl)) ?_
  refine Tr.conv (Conv.normT (keep := [2]) (ρ := [(1000000, 1000000), (2, 500000)]) ⟨upd (deadT) 2 (.pt 500000 0), upd (upd (emptyS) 500000 (some (some (.bx 35 [vI .u32 x1837, vI .u32 x1838, .t (.fz .u (y1854.map en50))])))) 1000000 (some (some (.ar 50 2 (x1839.map en50)))), 8, [1000000]⟩ (by kernel_rfl)) ?_
  refine Tr.retN (by kernel_rfl) ?_
  cases h0
  exact finQ_r (by kernel_rfl) (by kernel_rfl)
def F14_v3_1 (k : Nat) (x1821 : Int) (x1822 : Int) (x1823 : Int) (x1824 : (List E50)) (y1866 : Bool) : Option (Int × Int × (List E35)) :=
  cond y1866 (some (1, x1823, [])) (cond (decide (x1821 ≤ x1823)) (some (7, x1823, [])) ((F26_v1 k x1821 x1822 x1824).bind fun y1869 =>
  grd (decide ((([] : List E35).length + ([(E35.mk x1821 x1822 y1869)]).length) * 32 ≤ 140737488355328)) <|
  some (0, x1821, (([] : List E35) ++ ([(E35.mk x1821 x1822 y1869)])))))
def F14_v3 (k : Nat) (x1821 : Int) (x1822 : Int) (x1823 : Int) (x1824 : (List E50)) : Option (Int × Int × (List E35)) :=
  cond (x1821 == 0) (F14_v3_1 k x1821 x1822 x1823 x1824 true) (F14_v3_1 k x1821 x1822 x1823 x1824 ((x1824.length : Int) == 0))
theorem ct_F14_v3 (k : Nat) (x1821 : Int) (x1822 : Int) (x1823 : Int) (x1824 : (List E50)) (r : (Int × Int × (List E35))) (h0 : F14_v3 k x1821 x1822 x1823 x1824 = some r) : CTd Try.prog 14 [.pt 1000000 0, .ag [vI .u32 x1821, vI .u32 x1822, .sl .u 1000001]] [(1000000, .bx 59 [.t (.sc (.slice none 0 0)), vI .u32 x1823]), (1000001, .ar 50 2 (x1824.map en50))] (vI .i64 r.1) (upd (upd (upd (emptyS) 500000 (some (some (.ar 35 3 (r.2.2.map en35))))) 1000001 (some (some (.ar 50 2 (x1824.map en50))))) 1000000 (some (some (.bx 59 [.sl .n 500000, vI .u32 r.2.1])))) := by
  refine CTd.of_tr Try.f14 Try.func14 (by kernel_rfl) ?_
  unfold F14_v3 at h0
  refine Tr.conv (Conv.normT (keep := [0, 1]) (ρ := [(1000000, 1000000), (1000001, 1000001)]) ⟨upd (upd (deadT) 1 (.ag [vI .u32 x1821, vI .u32 x1822, .sl .u 1000001])) 0 (.pt 1000000 0), upd (upd (emptyS) 1000001 (some (some (.ar 50 2 (x1824.map en50))))) 1000000 (some (some (.bx 59 [.t (.sc (.slice none 0 0)), vI .u32 x1823]))), 43, [1000000, 1000001]⟩ (by kernel_rfl)) ?_
  refine Tr.seqN (by kernel_rfl) ?_
  refine Tr.regionN (by kernel_rfl) ?_
  refine TrAt.goS good 2 [(3, .pt 3 0), (4, vI .i64 0)] [(3, .bx 35 [vI .u32 x1821, vI .u32 x1822, .sl .u 1000001])] (by kernel_rfl) ?_
  refine TrAt.end_ (by kernel_rfl) ?_
  refine thenQ_n ?_
  refine Tr.seqN (by kernel_rfl) ?_
  refine Tr.blockN (by kernel_rfl) ?_
  refine Tr.seqI (fun st => ∃ y1866, F14_v3_1 k x1821 x1822 x1823 x1824 y1866 = some r ∧ st = ⟨upd (upd (upd (deadT) 5 (vB y1866)) 3 (.pt 300000 0)) 0 (.pt 1000000 0), upd (upd (upd (emptyS) 300000 (some (some (.bx 35 [vI .u32 x1821, vI .u32 x1822, .sl .u 1000001])))) 1000001 (some (some (.ar 50 2 (x1824.map en50))))) 1000000 (some (some (.bx 59 [.t (.sc (.slice none 0 0)), vI .u32 x1823]))), 43, [1000000, 1000001]⟩) (by kernel_rfl) ?_ ?_
  · refine Tr.regionN (by kernel_rfl) ?_
    refine TrAt.goS good 8 [(6, .pt 1000000 0), (7, vB false), (8, vB false), (9, .pt 3 0), (10, vI .u32 x1821), (11, vB (x1821 == 0)), (12, vB (x1821 == 0)), (13, vB (x1821 == 0))] [] (by kernel_rfl) ?_
    cases g1872 : ((x1821 == 0) : Bool) with
    | true =>
      have h0 := cond_t g1872 h0
      refine TrAt.goS good 6 [(14, .tp []), (15, .tp []), (16, .tp []), (17, .tp []), (18, vB true), (5, vB true)] [] (by kernel_rfl) ?_
      refine TrAt.conv (Conv.normT (keep := [0, 3, 5]) (ρ := [(1000000, 1000000), (1000001, 1000001), (3, 300000)]) ⟨upd (upd (upd (deadT) 5 (vB true)) 3 (.pt 300000 0)) 0 (.pt 1000000 0), upd (upd (upd (emptyS) 300000 (some (some (.bx 35 [vI .u32 x1821, vI .u32 x1822, .sl .u 1000001])))) 1000001 (some (some (.ar 50 2 (x1824.map en50))))) 1000000 (some (some (.bx 59 [.t (.sc (.slice none 0 0)), vI .u32 x1823]))), 43, [1000000, 1000001]⟩ (by kernel_rfl)) ?_
      refine TrAt.end_ (by kernel_rfl) ?_
      refine thenI_n ?_
      exact ⟨true, h0, rfl⟩
    | false =>
      have h0 := cond_f g1872 h0
      refine TrAt.goS good 2 [(14, .pt 3 2), (15, .sl .u 1000001)] [] (by kernel_rfl) ?_
      refine TrAt.lawP 16 _ _ (by kernel_rfl) (by kernel_rfl) (by kernel_rfl) (by kernel_rfl) (lenSl_ok good (t := 33) (e := 50) (x := .tmp 15) (nl := .u) (enc := en50) (xs := x1824) (nm := 1000001) (e' := 50) (sz := 2) (by kernel_rfl) (by kernel_rfl) (by kernel_rfl) (by kernel_rfl)) ?_
      refine TrAt.goS good 3 [(17, vB ((x1824.length : Int) == 0)), (18, vB ((x1824.length : Int) == 0)), (5, vB ((x1824.length : Int) == 0))] [] (by kernel_rfl) ?_
      refine TrAt.conv (Conv.normT (keep := [0, 3, 5]) (ρ := [(1000000, 1000000), (1000001, 1000001), (3, 300000)]) ⟨upd (upd (upd (deadT) 5 (vB ((x1824.length : Int) == 0))) 3 (.pt 300000 0)) 0 (.pt 1000000 0), upd (upd (upd (emptyS) 300000 (some (some (.bx 35 [vI .u32 x1821, vI .u32 x1822, .sl .u 1000001])))) 1000001 (some (some (.ar 50 2 (x1824.map en50))))) 1000000 (some (some (.bx 59 [.t (.sc (.slice none 0 0)), vI .u32 x1823]))), 43, [1000000, 1000001]⟩ (by kernel_rfl)) ?_
      refine TrAt.end_ (by kernel_rfl) ?_
      refine thenI_n ?_
      exact ⟨((x1824.length : Int) == 0), h0, rfl⟩
  · rintro st ⟨y1866, h0, rfl⟩
    unfold F14_v3_1 at h0
    refine Tr.condN y1866 (by kernel_rfl) (by kernel_rfl) ?_ ?_
    · intro g1867
      have h0 := cond_t g1867 h0
      refine Tr.seqN (by kernel_rfl) ?_
      refine Tr.regionN (by kernel_rfl) ?_
      refine TrAt.goS good 1 [(4, vI .i64 1)] [] (by kernel_rfl) ?_
      refine TrAt.end_ (by kernel_rfl) ?_
      refine thenQ_n ?_
      refine Tr.conv (Conv.nilBox 1000000 59 [.t (.sc (.slice none 0 0)), vI .u32 x1823] 0 200017 35 3 (by kernel_rfl) (by kernel_rfl) (by kernel_rfl) (by kernel_rfl)) ?_
      refine Tr.conv (Conv.normT (keep := [4]) (ρ := [(1000000, 1000000), (1000001, 1000001), (200017, 500000)]) ⟨upd (deadT) 4 (vI .i64 1), upd (upd (upd (emptyS) 500000 (some (some (.ar 35 3 (([]).map en35))))) 1000001 (some (some (.ar 50 2 (x1824.map en50))))) 1000000 (some (some (.bx 59 [.sl .n 500000, vI .u32 x1823]))), 43, [1000000, 1000001]⟩ (by kernel_rfl)) ?_
      refine Tr.retN (by kernel_rfl) ?_
      refine inBlockQ_r ?_
      refine thenQ_r ?_
      cases h0
      exact finQ_r (by kernel_rfl) (by kernel_rfl)
    · intro g1867
      have h0 := cond_f g1867 h0
      refine Tr.seqN (by kernel_rfl) ?_
      refine Tr.draws ⟨upd (upd (upd (deadT) 19 (vB (decide (x1821 ≤ x1823)))) 3 (.pt 300000 0)) 0 (.pt 1000000 0), upd (upd (upd (emptyS) 300000 (some (some (.bx 35 [vI .u32 x1821, vI .u32 x1822, .sl .u 1000001])))) 1000001 (some (some (.ar 50 2 (x1824.map en50))))) 1000000 (some (some (.bx 59 [.t (.sc (.slice none 0 0)), vI .u32 x1823]))), 43, [1000000, 1000001]⟩ [.pt 300000 0, vI .u32 x1821, .pt 1000000 0, .pt 1000000 0, .pt 1000000 1, vI .u32 x1823, vB (decide (x1821 ≤ x1823)), vB (decide (x1821 ≤ x1823))] [] [] [(0, 0), (1, 0), (2, 0), (3, 0), (4, 0), (5, 0), (6, 0), (7, 0)] (by kernel_rfl) (by kernel_rfl) (by kernel_rfl) ⟨OpLaw.step good (by kernel_rfl), OpLaw.step good (by kernel_rfl), OpLaw.step good (by kernel_rfl), OpLaw.step good (by kernel_rfl), OpLaw.step good (by kernel_rfl), OpLaw.step good (by kernel_rfl), OpLaw.step good (by kernel_rfl), OpLaw.step good (by kernel_rfl), trivial⟩ (Conv.normT (keep := [0, 3, 19]) (ρ := [(1000000, 1000000), (1000001, 1000001), (300000, 300000)]) ⟨upd (upd (upd (deadT) 19 (vB (decide (x1821 ≤ x1823)))) 3 (.pt 300000 0)) 0 (.pt 1000000 0), upd (upd (upd (emptyS) 300000 (some (some (.bx 35 [vI .u32 x1821, vI .u32 x1822, .sl .u 1000001])))) 1000001 (some (some (.ar 50 2 (x1824.map en50))))) 1000000 (some (some (.bx 59 [.t (.sc (.slice none 0 0)), vI .u32 x1823]))), 43, [1000000, 1000001]⟩ (by kernel_rfl)) ?_
      refine thenQ_n ?_
      refine Tr.condN (decide (x1821 ≤ x1823)) (by kernel_rfl) (by kernel_rfl) ?_ ?_
      · intro g1868
        have h0 := cond_t g1868 h0
        refine Tr.seqN (by kernel_rfl) ?_
        refine Tr.regionN (by kernel_rfl) ?_
        refine TrAt.goS good 1 [(4, vI .i64 7)] [] (by kernel_rfl) ?_
        refine TrAt.end_ (by kernel_rfl) ?_
        refine thenQ_n ?_
        refine Tr.conv (Conv.nilBox 1000000 59 [.t (.sc (.slice none 0 0)), vI .u32 x1823] 0 200018 35 3 (by kernel_rfl) (by kernel_rfl) (by kernel_rfl) (by kernel_rfl)) ?_
        refine Tr.conv (Conv.normT (keep := [4]) (ρ := [(1000000, 1000000), (1000001, 1000001), (200018, 500000)]) ⟨upd (deadT) 4 (vI .i64 7), upd (upd (upd (emptyS) 500000 (some (some (.ar 35 3 (([]).map en35))))) 1000001 (some (some (.ar 50 2 (x1824.map en50))))) 1000000 (some (some (.bx 59 [.sl .n 500000, vI .u32 x1823]))), 43, [1000000, 1000001]⟩ (by kernel_rfl)) ?_
        refine Tr.retN (by kernel_rfl) ?_
        refine inBlockQ_r ?_
        refine thenQ_r ?_
        cases h0
        exact finQ_r (by kernel_rfl) (by kernel_rfl)
      · intro g1868
        have h0 := cond_f g1868 h0
        refine Tr.skipN (by kernel_rfl) ?_
        refine inBlockQ_n ?_
        refine thenQ_n ?_
        refine Tr.seqN (by kernel_rfl) ?_
        obtain ⟨y1869, h1870, h0⟩ := bind_out h0
        obtain ⟨g1871, h0⟩ := grd_out h0
        refine Tr.draws ⟨deadT, upd (upd (upd (emptyS) 300000 (some (some (.ar 35 3 ((([] : List E35) ++ ([(E35.mk x1821 x1822 y1869)])).map en35))))) 1000001 (some (some (.ar 50 2 (x1824.map en50))))) 1000000 (some (some (.bx 59 [.sl .n 300000, vI .u32 x1821]))), 43, [1000000, 1000001]⟩ [.pt 1000000 0, .pt 1000000 0, .pt 1000000 0, .pt 1000000 0, .pt 1000000 0, .t (.sc (.slice none 0 0)), .ag [vI .u32 x1821, vI .u32 x1822, .sl .u 1000001], .ag [vI .u32 x1821, vI .u32 x1822, .t (.fz .u (y1869.map en50))], .sl .e 35, .sl .n 36, .pt 300000 0, vI .u32 x1821, .pt 1000000 0, .pt 1000000 0, .tp [], .pt 1000000 0, .pt 1000000 1, .tp []] [fun s => backS [(1000000, 1000001), (500000, 400680)] (upd (upd (emptyS) 500000 (some (some (.bx 35 [vI .u32 x1821, vI .u32 x1822, .t (.fz .u (y1869.map en50))])))) 1000000 (some (some (.ar 50 2 (x1824.map en50))))) s, fun s => upd s 35 (some (some (.ar 35 3 (([(E35.mk x1821 x1822 y1869)]).map en35)))), fun s => upd (killS s none) 36 (some (some (.ar 35 3 ((([] : List E35) ++ ([(E35.mk x1821 x1822 y1869)])).map en35)))), fun s => upd s 1000000 (some (some (.bx 59 [.sl .n 36, vI .u32 x1823]))), fun s => upd s 1000000 (some (some (.bx 59 [.sl .n 36, vI .u32 x1821])))] [7, 8, 9, 14, 17] [(0, 0), (0, 1), (0, 2), (0, 3), (1, 0), (1, 1), (1, 2), (1, 3), (1, 4), (2, 0), (2, 1), (2, 2), (2, 3), (3, 0), (3, 1), (3, 2), (3, 3), (4, 0), (4, 1), (4, 2), (4, 3), (5, 0), (5, 1), (5, 2), (6, 0), (7, 0), (8, 1), (9, 2), (10, 0), (10, 1), (10, 2), (10, 3), (10, 4), (11, 0), (11, 1), (11, 2), (11, 3), (11, 4), (12, 3), (12, 4), (13, 3), (14, 3), (15, 4), (15, 5), (16, 4), (17, 4)] (by kernel_rfl) (by kernel_rfl) (by kernel_rfl) ⟨OpLaw.step good (by kernel_rfl), OpLaw.step good (by kernel_rfl), OpLaw.step good (by kernel_rfl), OpLaw.step good (by kernel_rfl), OpLaw.step good (by kernel_rfl), OpLaw.step good (by kernel_rfl), OpLaw.step good (by kernel_rfl), OpLaw.step good (by kernel_rfl), OpLaw.step good (by kernel_rfl), OpLaw.step good (by kernel_rfl), OpLaw.step good (by kernel_rfl), OpLaw.step good (by kernel_rfl), OpLaw.step good (by kernel_rfl), OpLaw.step good (by kernel_rfl), OpLaw.step good (by kernel_rfl), OpLaw.step good (by kernel_rfl), OpLaw.step good (by kernel_rfl), OpLaw.step good (by kernel_rfl), OpLaw.step good (by kernel_rfl), OpLaw.step good (by kernel_rfl), OpLaw.step good (by kernel_rfl), OpLaw.step good (by kernel_rfl), OpLaw.step good (by kernel_rfl), OpLaw.step good (by kernel_rfl), OpLaw.step good (by kernel_rfl), OpLaw.callD (caps := []) [(1000000, 1000001)] [(500000, 400680)] (.func 26) #[.tmp 33] #[35] (ct_F26_v1 k x1821 x1822 x1824 y1869 h1870) Try.func26 (by kernel_rfl) (by kernel_rfl) (by kernel_rfl) (by kernel_rfl) (by kernel_rfl) (by kernel_rfl) (by kernel_rfl) (by kernel_rfl) (by kernel_rfl) (by kernel_rfl) (by kernel_rfl) (by kernel_rfl) (by kernel_rfl), OpLaw.ok (v' := .sl .e 35) (by kernel_rfl) (by kernel_rfl) (by kernel_rfl) (bsP_ok good (t := 44) (e := 35) (d := 35) (len := 1) (parts := #[(0, .tmp 34)]) (rows := ([(E35.mk x1821 x1822 y1869)]).map en35) (by kernel_rfl) (by kernel_rfl) (by kernel_rfl) (by kernel_rfl) (by kernel_rfl) (by kernel_rfl)), OpLaw.ok (v' := .sl .n 36) (by kernel_rfl) (by kernel_rfl) (by kernel_rfl) (apP_ok good (x := .tmp 32) (y := .tmp 35) (t := 44) (e := 35) (d := 36) (nl := .n) (enc := en35) (xs := ([] : List E35)) (ys := [(E35.mk x1821 x1822 y1869)]) (oo := none) (bz := 32) (by kernel_rfl) (by kernel_rfl) (by kernel_rfl) (by kernel_rfl) (by kernel_rfl) (by kernel_rfl) wide35 (by kernel_rfl) g1871), OpLaw.step good (by kernel_rfl), OpLaw.step good (by kernel_rfl), OpLaw.step good (by kernel_rfl), OpLaw.step good (by kernel_rfl), OpLaw.step good (by kernel_rfl), OpLaw.step good (by kernel_rfl), OpLaw.step good (by kernel_rfl), OpLaw.step good (by kernel_rfl), OpLaw.step good (by kernel_rfl), OpLaw.step good (by kernel_rfl), OpLaw.step good (by kernel_rfl), OpLaw.step good (by kernel_rfl), OpLaw.step good (by kernel_rfl), OpLaw.step good (by kernel_rfl), OpLaw.step good (by kernel_rfl), OpLaw.step good (by kernel_rfl), OpLaw.step good (by kernel_rfl), OpLaw.step good (by kernel_rfl), trivial⟩ (Conv.normT (keep := []) (ρ := [(1000000, 1000000), (1000001, 1000001), (36, 300000)]) ⟨deadT, upd (upd (upd (emptyS) 300000 (some (some (.ar 35 3 ((([] : List E35) ++ ([(E35.mk x1821 x1822 y1869)])).map en35))))) 1000001 (some (some (.ar 50 2 (x1824.map en50))))) 1000000 (some (some (.bx 59 [.sl .n 300000, vI .u32 x1821]))), 43, [1000000, 1000001]⟩ (by kernel_rfl)) ?_
        refine thenQ_n ?_
        refine Tr.seqN (by kernel_rfl) ?_
        refine Tr.regionN (by kernel_rfl) ?_
        refine TrAt.goS good 1 [(4, vI .i64 0)] [] (by kernel_rfl) ?_
        refine TrAt.end_ (by kernel_rfl) ?_
        refine thenQ_n ?_
        refine Tr.conv (Conv.normT (keep := [4]) (ρ := [(1000000, 1000000), (1000001, 1000001), (300000, 500000)]) ⟨upd (deadT) 4 (vI .i64 0), upd (upd (upd (emptyS) 500000 (some (some (.ar 35 3 ((([] : List E35) ++ ([(E35.mk x1821 x1822 y1869)])).map en35))))) 1000001 (some (some (.ar 50 2 (x1824.map en50))))) 1000000 (some (some (.bx 59 [.sl .n 500000, vI .u32 x1821]))), 43, [1000000, 1000001]⟩ (by kernel_rfl)) ?_
        refine Tr.retN (by kernel_rfl) ?_
        cases h0
        exact finQ_r (by kernel_rfl) (by kernel_rfl)
def F14_v4_1 (k : Nat) (x2884 : Int) (x2885 : Int) (x2886 : Int) (x2887 : (List E50)) (x2888 : (List E35)) (y2911 : Bool) : Option (Int × Int × (List E35)) :=
  cond y2911 (some (1, x2886, x2888)) (cond (decide (x2884 ≤ x2886)) (some (7, x2886, x2888)) ((F26_v1 k x2884 x2885 x2887).bind fun y2914 =>
  grd (decide ((x2888.length + ([(E35.mk x2884 x2885 y2914)]).length) * 32 ≤ 140737488355328)) <|
  some (0, x2884, (x2888 ++ ([(E35.mk x2884 x2885 y2914)])))))
def F14_v4 (k : Nat) (x2884 : Int) (x2885 : Int) (x2886 : Int) (x2887 : (List E50)) (x2888 : (List E35)) : Option (Int × Int × (List E35)) :=
  cond (x2884 == 0) (F14_v4_1 k x2884 x2885 x2886 x2887 x2888 true) (F14_v4_1 k x2884 x2885 x2886 x2887 x2888 ((x2887.length : Int) == 0))
theorem ct_F14_v4 (k : Nat) (x2884 : Int) (x2885 : Int) (x2886 : Int) (x2887 : (List E50)) (x2888 : (List E35)) (r : (Int × Int × (List E35))) (h0 : F14_v4 k x2884 x2885 x2886 x2887 x2888 = some r) : CTd Try.prog 14 [.pt 1000000 0, .ag [vI .u32 x2884, vI .u32 x2885, .sl .u 1000001]] [(1000000, .bx 59 [.sl .n 1000002, vI .u32 x2886]), (1000001, .ar 50 2 (x2887.map en50)), (1000002, .ar 35 3 (x2888.map en35))] (vI .i64 r.1) (upd (upd (upd (upd (emptyS) 500000 (some (some (.ar 35 3 (r.2.2.map en35))))) 1000002 (some none)) 1000001 (some (some (.ar 50 2 (x2887.map en50))))) 1000000 (some (some (.bx 59 [.sl .n 500000, vI .u32 r.2.1])))) := by
  refine CTd.of_tr Try.f14 Try.func14 (by kernel_rfl) ?_
  unfold F14_v4 at h0
  refine Tr.conv (Conv.normT (keep := [0, 1]) (ρ := [(1000000, 1000000), (1000001, 1000001), (1000002, 1000002)]) ⟨upd (upd (deadT) 1 (.ag [vI .u32 x2884, vI .u32 x2885, .sl .u 1000001])) 0 (.pt 1000000 0), upd (upd (upd (emptyS) 1000002 (some (some (.ar 35 3 (x2888.map en35))))) 1000001 (some (some (.ar 50 2 (x2887.map en50))))) 1000000 (some (some (.bx 59 [.sl .n 1000002, vI .u32 x2886]))), 43, [1000000, 1000001, 1000002]⟩ (by kernel_rfl)) ?_
  refine Tr.seqN (by kernel_rfl) ?_
  refine Tr.regionN (by kernel_rfl) ?_
  refine TrAt.goS good 2 [(3, .pt 3 0), (4, vI .i64 0)] [(3, .bx 35 [vI .u32 x2884, vI .u32 x2885, .sl .u 1000001])] (by kernel_rfl) ?_
  refine TrAt.end_ (by kernel_rfl) ?_
  refine thenQ_n ?_
  refine Tr.seqN (by kernel_rfl) ?_
  refine Tr.blockN (by kernel_rfl) ?_
  refine Tr.seqI (fun st => ∃ y2911, F14_v4_1 k x2884 x2885 x2886 x2887 x2888 y2911 = some r ∧ st = ⟨upd (upd (upd (deadT) 5 (vB y2911)) 3 (.pt 300000 0)) 0 (.pt 1000000 0), upd (upd (upd (upd (emptyS) 300000 (some (some (.bx 35 [vI .u32 x2884, vI .u32 x2885, .sl .u 1000001])))) 1000002 (some (some (.ar 35 3 (x2888.map en35))))) 1000001 (some (some (.ar 50 2 (x2887.map en50))))) 1000000 (some (some (.bx 59 [.sl .n 1000002, vI .u32 x2886]))), 43, [1000000, 1000001, 1000002]⟩) (by kernel_rfl) ?_ ?_
  · refine Tr.regionN (by kernel_rfl) ?_
    refine TrAt.goS good 8 [(6, .pt 1000000 0), (7, vB false), (8, vB false), (9, .pt 3 0), (10, vI .u32 x2884), (11, vB (x2884 == 0)), (12, vB (x2884 == 0)), (13, vB (x2884 == 0))] [] (by kernel_rfl) ?_
    cases g2917 : ((x2884 == 0) : Bool) with
    | true =>
      have h0 := cond_t g2917 h0
      refine TrAt.goS good 6 [(14, .tp []), (15, .tp []), (16, .tp []), (17, .tp []), (18, vB true), (5, vB true)] [] (by kernel_rfl) ?_
      refine TrAt.conv (Conv.normT (keep := [0, 3, 5]) (ρ := [(1000000, 1000000), (1000001, 1000001), (1000002, 1000002), (3, 300000)]) ⟨upd (upd (upd (deadT) 5 (vB true)) 3 (.pt 300000 0)) 0 (.pt 1000000 0), upd (upd (upd (upd (emptyS) 300000 (some (some (.bx 35 [vI .u32 x2884, vI .u32 x2885, .sl .u 1000001])))) 1000002 (some (some (.ar 35 3 (x2888.map en35))))) 1000001 (some (some (.ar 50 2 (x2887.map en50))))) 1000000 (some (some (.bx 59 [.sl .n 1000002, vI .u32 x2886]))), 43, [1000000, 1000001, 1000002]⟩ (by kernel_rfl)) ?_
      refine TrAt.end_ (by kernel_rfl) ?_
      refine thenI_n ?_
      exact ⟨true, h0, rfl⟩
    | false =>
      have h0 := cond_f g2917 h0
      refine TrAt.goS good 2 [(14, .pt 3 2), (15, .sl .u 1000001)] [] (by kernel_rfl) ?_
      refine TrAt.lawP 16 _ _ (by kernel_rfl) (by kernel_rfl) (by kernel_rfl) (by kernel_rfl) (lenSl_ok good (t := 33) (e := 50) (x := .tmp 15) (nl := .u) (enc := en50) (xs := x2887) (nm := 1000001) (e' := 50) (sz := 2) (by kernel_rfl) (by kernel_rfl) (by kernel_rfl) (by kernel_rfl)) ?_
      refine TrAt.goS good 3 [(17, vB ((x2887.length : Int) == 0)), (18, vB ((x2887.length : Int) == 0)), (5, vB ((x2887.length : Int) == 0))] [] (by kernel_rfl) ?_
      refine TrAt.conv (Conv.normT (keep := [0, 3, 5]) (ρ := [(1000000, 1000000), (1000001, 1000001), (1000002, 1000002), (3, 300000)]) ⟨upd (upd (upd (deadT) 5 (vB ((x2887.length : Int) == 0))) 3 (.pt 300000 0)) 0 (.pt 1000000 0), upd (upd (upd (upd (emptyS) 300000 (some (some (.bx 35 [vI .u32 x2884, vI .u32 x2885, .sl .u 1000001])))) 1000002 (some (some (.ar 35 3 (x2888.map en35))))) 1000001 (some (some (.ar 50 2 (x2887.map en50))))) 1000000 (some (some (.bx 59 [.sl .n 1000002, vI .u32 x2886]))), 43, [1000000, 1000001, 1000002]⟩ (by kernel_rfl)) ?_
      refine TrAt.end_ (by kernel_rfl) ?_
      refine thenI_n ?_
      exact ⟨((x2887.length : Int) == 0), h0, rfl⟩
  · rintro st ⟨y2911, h0, rfl⟩
    unfold F14_v4_1 at h0
    refine Tr.condN y2911 (by kernel_rfl) (by kernel_rfl) ?_ ?_
    · intro g2912
      have h0 := cond_t g2912 h0
      refine Tr.seqN (by kernel_rfl) ?_
      refine Tr.regionN (by kernel_rfl) ?_
      refine TrAt.goS good 1 [(4, vI .i64 1)] [] (by kernel_rfl) ?_
      refine TrAt.end_ (by kernel_rfl) ?_
      refine thenQ_n ?_
      refine Tr.conv (Conv.move 1000002 200024 (by kernel_rfl) (by kernel_rfl)) ?_
      refine Tr.conv (Conv.normT (keep := [4]) (ρ := [(1000000, 1000000), (1000001, 1000001), (1000002, 1000002), (200024, 500000)]) ⟨upd (deadT) 4 (vI .i64 1), upd (upd (upd (upd (emptyS) 500000 (some (some (.ar 35 3 (x2888.map en35))))) 1000002 (some none)) 1000001 (some (some (.ar 50 2 (x2887.map en50))))) 1000000 (some (some (.bx 59 [.sl .n 500000, vI .u32 x2886]))), 43, [1000000, 1000001, 1000002]⟩ (by kernel_rfl)) ?_
      refine Tr.retN (by kernel_rfl) ?_
      refine inBlockQ_r ?_
      refine thenQ_r ?_
      cases h0
      exact finQ_r (by kernel_rfl) (by kernel_rfl)
    · intro g2912
      have h0 := cond_f g2912 h0
      refine Tr.seqN (by kernel_rfl) ?_
      refine Tr.draws ⟨upd (upd (upd (deadT) 19 (vB (decide (x2884 ≤ x2886)))) 3 (.pt 300000 0)) 0 (.pt 1000000 0), upd (upd (upd (upd (emptyS) 300000 (some (some (.bx 35 [vI .u32 x2884, vI .u32 x2885, .sl .u 1000001])))) 1000002 (some (some (.ar 35 3 (x2888.map en35))))) 1000001 (some (some (.ar 50 2 (x2887.map en50))))) 1000000 (some (some (.bx 59 [.sl .n 1000002, vI .u32 x2886]))), 43, [1000000, 1000001, 1000002]⟩ [.pt 300000 0, vI .u32 x2884, .pt 1000000 0, .pt 1000000 0, .pt 1000000 1, vI .u32 x2886, vB (decide (x2884 ≤ x2886)), vB (decide (x2884 ≤ x2886))] [] [] [(0, 0), (1, 0), (2, 0), (3, 0), (4, 0), (5, 0), (6, 0), (7, 0)] (by kernel_rfl) (by kernel_rfl) (by kernel_rfl) ⟨OpLaw.step good (by kernel_rfl), OpLaw.step good (by kernel_rfl), OpLaw.step good (by kernel_rfl), OpLaw.step good (by kernel_rfl), OpLaw.step good (by kernel_rfl), OpLaw.step good (by kernel_rfl), OpLaw.step good (by kernel_rfl), OpLaw.step good (by kernel_rfl), trivial⟩ (Conv.normT (keep := [0, 3, 19]) (ρ := [(1000000, 1000000), (1000001, 1000001), (1000002, 1000002), (300000, 300000)]) ⟨upd (upd (upd (deadT) 19 (vB (decide (x2884 ≤ x2886)))) 3 (.pt 300000 0)) 0 (.pt 1000000 0), upd (upd (upd (upd (emptyS) 300000 (some (some (.bx 35 [vI .u32 x2884, vI .u32 x2885, .sl .u 1000001])))) 1000002 (some (some (.ar 35 3 (x2888.map en35))))) 1000001 (some (some (.ar 50 2 (x2887.map en50))))) 1000000 (some (some (.bx 59 [.sl .n 1000002, vI .u32 x2886]))), 43, [1000000, 1000001, 1000002]⟩ (by kernel_rfl)) ?_
      refine thenQ_n ?_
      refine Tr.condN (decide (x2884 ≤ x2886)) (by kernel_rfl) (by kernel_rfl) ?_ ?_
      · intro g2913
        have h0 := cond_t g2913 h0
        refine Tr.seqN (by kernel_rfl) ?_
        refine Tr.regionN (by kernel_rfl) ?_
        refine TrAt.goS good 1 [(4, vI .i64 7)] [] (by kernel_rfl) ?_
        refine TrAt.end_ (by kernel_rfl) ?_
        refine thenQ_n ?_
        refine Tr.conv (Conv.move 1000002 200025 (by kernel_rfl) (by kernel_rfl)) ?_
        refine Tr.conv (Conv.normT (keep := [4]) (ρ := [(1000000, 1000000), (1000001, 1000001), (1000002, 1000002), (200025, 500000)]) ⟨upd (deadT) 4 (vI .i64 7), upd (upd (upd (upd (emptyS) 500000 (some (some (.ar 35 3 (x2888.map en35))))) 1000002 (some none)) 1000001 (some (some (.ar 50 2 (x2887.map en50))))) 1000000 (some (some (.bx 59 [.sl .n 500000, vI .u32 x2886]))), 43, [1000000, 1000001, 1000002]⟩ (by kernel_rfl)) ?_
        refine Tr.retN (by kernel_rfl) ?_
        refine inBlockQ_r ?_
        refine thenQ_r ?_
        cases h0
        exact finQ_r (by kernel_rfl) (by kernel_rfl)
      · intro g2913
        have h0 := cond_f g2913 h0
        refine Tr.skipN (by kernel_rfl) ?_
        refine inBlockQ_n ?_
        refine thenQ_n ?_
        refine Tr.seqN (by kernel_rfl) ?_
        obtain ⟨y2914, h2915, h0⟩ := bind_out h0
        obtain ⟨g2916, h0⟩ := grd_out h0
        refine Tr.draws ⟨deadT, upd (upd (upd (upd (emptyS) 300000 (some (some (.ar 35 3 ((x2888 ++ ([(E35.mk x2884 x2885 y2914)])).map en35))))) 1000002 (some none)) 1000001 (some (some (.ar 50 2 (x2887.map en50))))) 1000000 (some (some (.bx 59 [.sl .n 300000, vI .u32 x2884]))), 43, [1000000, 1000001, 1000002]⟩ [.pt 1000000 0, .pt 1000000 0, .pt 1000000 0, .pt 1000000 0, .pt 1000000 0, .sl .n 1000002, .ag [vI .u32 x2884, vI .u32 x2885, .sl .u 1000001], .ag [vI .u32 x2884, vI .u32 x2885, .t (.fz .u (y2914.map en50))], .sl .e 35, .sl .n 36, .pt 300000 0, vI .u32 x2884, .pt 1000000 0, .pt 1000000 0, .tp [], .pt 1000000 0, .pt 1000000 1, .tp []] [fun s => backS [(1000000, 1000001), (500000, 400680)] (upd (upd (emptyS) 500000 (some (some (.bx 35 [vI .u32 x2884, vI .u32 x2885, .t (.fz .u (y2914.map en50))])))) 1000000 (some (some (.ar 50 2 (x2887.map en50))))) s, fun s => upd s 35 (some (some (.ar 35 3 (([(E35.mk x2884 x2885 y2914)]).map en35)))), fun s => upd (killS s (some 1000002)) 36 (some (some (.ar 35 3 ((x2888 ++ ([(E35.mk x2884 x2885 y2914)])).map en35)))), fun s => upd s 1000000 (some (some (.bx 59 [.sl .n 36, vI .u32 x2886]))), fun s => upd s 1000000 (some (some (.bx 59 [.sl .n 36, vI .u32 x2884])))] [7, 8, 9, 14, 17] [(0, 0), (0, 1), (0, 2), (0, 3), (1, 0), (1, 1), (1, 2), (1, 3), (1, 4), (2, 0), (2, 1), (2, 2), (2, 3), (3, 0), (3, 1), (3, 2), (3, 3), (4, 0), (4, 1), (4, 2), (4, 3), (5, 0), (5, 1), (5, 2), (6, 0), (7, 0), (8, 1), (9, 2), (10, 0), (10, 1), (10, 2), (10, 3), (10, 4), (11, 0), (11, 1), (11, 2), (11, 3), (11, 4), (12, 3), (12, 4), (13, 3), (14, 3), (15, 4), (15, 5), (16, 4), (17, 4)] (by kernel_rfl) (by kernel_rfl) (by kernel_rfl) ⟨OpLaw.step good (by kernel_rfl), OpLaw.step good (by kernel_rfl), OpLaw.step good (by kernel_rfl), OpLaw.step good (by kernel_rfl), OpLaw.step good (by kernel_rfl), OpLaw.step good (by kernel_rfl), OpLaw.step good (by kernel_rfl), OpLaw.step good (by kernel_rfl), OpLaw.step good (by kernel_rfl), OpLaw.step good (by kernel_rfl), OpLaw.step good (by kernel_rfl), OpLaw.step good (by kernel_rfl), OpLaw.step good (by kernel_rfl), OpLaw.step good (by kernel_rfl), OpLaw.step good (by kernel_rfl), OpLaw.step good (by kernel_rfl), OpLaw.step good (by kernel_rfl), OpLaw.step good (by kernel_rfl), OpLaw.step good (by kernel_rfl), OpLaw.step good (by kernel_rfl), OpLaw.step good (by kernel_rfl), OpLaw.step good (by kernel_rfl), OpLaw.step good (by kernel_rfl), OpLaw.step good (by kernel_rfl), OpLaw.step good (by kernel_rfl), OpLaw.callD (caps := []) [(1000000, 1000001)] [(500000, 400680)] (.func 26) #[.tmp 33] #[35] (ct_F26_v1 k x2884 x2885 x2887 y2914 h2915) Try.func26 (by kernel_rfl) (by kernel_rfl) (by kernel_rfl) (by kernel_rfl) (by kernel_rfl) (by kernel_rfl) (by kernel_rfl) (by kernel_rfl) (by kernel_rfl) (by kernel_rfl) (by kernel_rfl) (by kernel_rfl) (by kernel_rfl), OpLaw.ok (v' := .sl .e 35) (by kernel_rfl) (by kernel_rfl) (by kernel_rfl) (bsP_ok good (t := 44) (e := 35) (d := 35) (len := 1) (parts := #[(0, .tmp 34)]) (rows := ([(E35.mk x2884 x2885 y2914)]).map en35) (by kernel_rfl) (by kernel_rfl) (by kernel_rfl) (by kernel_rfl) (by kernel_rfl) (by kernel_rfl)), OpLaw.ok (v' := .sl .n 36) (by kernel_rfl) (by kernel_rfl) (by kernel_rfl) (apP_ok good (x := .tmp 32) (y := .tmp 35) (t := 44) (e := 35) (d := 36) (nl := .n) (enc := en35) (xs := x2888) (ys := [(E35.mk x2884 x2885 y2914)]) (oo := (some 1000002)) (bz := 32) (by kernel_rfl) (by kernel_rfl) (by kernel_rfl) (by kernel_rfl) (by kernel_rfl) (by kernel_rfl) wide35 (by kernel_rfl) g2916), OpLaw.step good (by kernel_rfl), OpLaw.step good (by kernel_rfl), OpLaw.step good (by kernel_rfl), OpLaw.step good (by kernel_rfl), OpLaw.step good (by kernel_rfl), OpLaw.step good (by kernel_rfl), OpLaw.step good (by kernel_rfl), OpLaw.step good (by kernel_rfl), OpLaw.step good (by kernel_rfl), OpLaw.step good (by kernel_rfl), OpLaw.step good (by kernel_rfl), OpLaw.step good (by kernel_rfl), OpLaw.step good (by kernel_rfl), OpLaw.step good (by kernel_rfl), OpLaw.step good (by kernel_rfl), OpLaw.step good (by kernel_rfl), OpLaw.step good (by kernel_rfl), OpLaw.step good (by kernel_rfl), trivial⟩ (Conv.normT (keep := []) (ρ := [(1000000, 1000000), (1000001, 1000001), (1000002, 1000002), (36, 300000)]) ⟨deadT, upd (upd (upd (upd (emptyS) 300000 (some (some (.ar 35 3 ((x2888 ++ ([(E35.mk x2884 x2885 y2914)])).map en35))))) 1000002 (some none)) 1000001 (some (some (.ar 50 2 (x2887.map en50))))) 1000000 (some (some (.bx 59 [.sl .n 300000, vI .u32 x2884]))), 43, [1000000, 1000001, 1000002]⟩ (by kernel_rfl)) ?_
        refine thenQ_n ?_
        refine Tr.seqN (by kernel_rfl) ?_
        refine Tr.regionN (by kernel_rfl) ?_
        refine TrAt.goS good 1 [(4, vI .i64 0)] [] (by kernel_rfl) ?_
        refine TrAt.end_ (by kernel_rfl) ?_
        refine thenQ_n ?_
        refine Tr.conv (Conv.normT (keep := [4]) (ρ := [(1000000, 1000000), (1000001, 1000001), (1000002, 1000002), (300000, 500000)]) ⟨upd (deadT) 4 (vI .i64 0), upd (upd (upd (upd (emptyS) 500000 (some (some (.ar 35 3 ((x2888 ++ ([(E35.mk x2884 x2885 y2914)])).map en35))))) 1000002 (some none)) 1000001 (some (some (.ar 50 2 (x2887.map en50))))) 1000000 (some (some (.bx 59 [.sl .n 500000, vI .u32 x2884]))), 43, [1000000, 1000001, 1000002]⟩ (by kernel_rfl)) ?_
        refine Tr.retN (by kernel_rfl) ?_
        cases h0
        exact finQ_r (by kernel_rfl) (by kernel_rfl)
def F8_1 (k : Nat) (y16429 : (Int × (List E35))) : Option Unit :=
  some ()
def F8_5 (k : Nat) (rcn16431 : Int → Int → (List E35) → Option (Sum Unit (Int × (List E35)))) (y15413 : Int) (y15414 : Int) (y15415 : (List E35)) (y17374 : (List E50)) : Option (Sum Unit (Int × (List E35))) :=
  (F14_v4 k (IntKind.wrap .u32 (IntKind.wrap .i64 (y15413 + 1))) 1 y15414 y17374 y15415).bind fun y17377 =>
  cond (y17377.1 != 0) (some (Sum.inl ())) (rcn16431 (IntKind.wrap .i64 (y15413 + 1)) y17377.2.1 y17377.2.2)
def F8_4 (k : Nat) (rcn16431 : Int → Int → (List E35) → Option (Sum Unit (Int × (List E35)))) (y15413 : Int) (y15414 : Int) (y15415 : (List E35)) (y17371 : (List E50)) : Option (Sum Unit (Int × (List E35))) :=
  cond ((y17371.length : Int) == 0) (F8_5 k rcn16431 y15413 y15414 y15415 ([(E50.mk 0 y15413)])) (F8_5 k rcn16431 y15413 y15414 y15415 y17371)
def F8_7 (k : Nat) (rcn17382 : Int → (List E50) → Option (List E50)) (x1248 : (List (List Int))) (y15413 : Int) (y17316 : Int) (y17317 : (List E50)) (y17383 : Bool) : Option (List E50) :=
  cond y17383 ((ix x1248 y15413).bind fun x17407 =>
  (ix x17407 y17316).bind fun x17411 =>
  (F10 k x17411 4).bind fun y17415 =>
  grd (decide ((y17317.length + ([(E50.mk y17415 y17316)]).length) * 16 ≤ 140737488355328)) <|
  rcn17382 (IntKind.wrap .i64 (y17316 + 1)) (y17317 ++ ([(E50.mk y17415 y17316)]))) (some y17317)
def F8_6 (k : Nat) (x1248 : (List (List Int))) (y15413 : Int) : Nat → Int → (List E50) → Option (List E50)
  | 0, _, _ => none
  | n17382+1, y17316, y17317 =>
    (ix x1248 y15413).bind fun x17418 =>
    cond (decide (y17316 < (x17418.length : Int))) (F8_7 k (F8_6 k x1248 y15413 n17382) x1248 y15413 y17316 y17317 (decide (y17316 < 5))) (F8_7 k (F8_6 k x1248 y15413 n17382) x1248 y15413 y17316 y17317 false)
def F8_3 (k : Nat) (rcn16431 : Int → Int → (List E35) → Option (Sum Unit (Int × (List E35)))) (x1248 : (List (List Int))) (y15413 : Int) (y15414 : Int) (y15415 : (List E35)) (y16432 : Bool) : Option (Sum Unit (Int × (List E35))) :=
  cond y16432 ((F8_6 k x1248 y15413 k 0 ([])).bind fun y17371 =>
  F8_4 k rcn16431 y15413 y15414 y15415 y17371) (some (Sum.inr (y15414, y15415)))
def F8_2 (k : Nat) (x1248 : (List (List Int))) : Nat → Int → Int → (List E35) → Option (Sum Unit (Int × (List E35)))
  | 0, _, _, _ => none
  | n16431+1, y15413, y15414, y15415 =>
    cond (decide (y15413 < (x1248.length : Int))) (F8_3 k (F8_2 k x1248 n16431) x1248 y15413 y15414 y15415 (decide (y15413 < 20))) (F8_3 k (F8_2 k x1248 n16431) x1248 y15413 y15414 y15415 false)
def F8 (k : Nat) (x1248 : (List (List Int))) : Option Unit :=
  (F13 k).bind fun y13408 =>
  (F8_2 k x1248 k 0 0 ([])).bind fun z => match z with
    | (Sum.inl y16428) => some ()
    | (Sum.inr y16429) => F8_1 k y16429
theorem ct_F8 (k : Nat) (x1248 : (List (List Int))) (r : Unit) (h0 : F8 k x1248 = some r) : CTd Try.prog 8 [.t (.fz .u (x1248.map en28))] [] (.dead) (emptyS) := by
  refine CTd.of_tr Try.f8 Try.func8 (by kernel_rfl) ?_
  unfold F8 at h0
  refine Tr.conv (Conv.normT (keep := [0]) (ρ := []) ⟨upd (deadT) 0 (.t (.fz .u (x1248.map en28))), emptyS, 61, []⟩ (by kernel_rfl)) ?_
  refine Tr.seqN (by kernel_rfl) ?_
  refine Tr.regionN (by kernel_rfl) ?_
  refine TrAt.goS good 1 [(2, .t (.sc (.pointer none)))] [] (by kernel_rfl) ?_
  refine TrAt.end_ (by kernel_rfl) ?_
  refine thenQ_n ?_
  refine Tr.seqN (by kernel_rfl) ?_
  refine Tr.regionN (by kernel_rfl) ?_
  obtain ⟨y13408, h13409, h0⟩ := bind_out h0
  refine TrAt.callD (caps := []) 7 (.pt 400140 0) [] [(500000, 400140)] (.func 13) #[] #[] (ct_F13 k y13408 h13409) Try.func13 (by kernel_rfl) (by kernel_rfl) (by kernel_rfl) (by kernel_rfl) (by kernel_rfl) (by kernel_rfl) (by kernel_rfl) (by kernel_rfl) (by kernel_rfl) (by kernel_rfl) (by kernel_rfl) (by kernel_rfl) (by kernel_rfl) (by kernel_rfl) (by kernel_rfl) ?_
  refine TrAt.goS good 1 [(3, .pt 400140 0)] [] (by kernel_rfl) ?_
  refine TrAt.end_ (by kernel_rfl) ?_
  refine thenQ_n ?_
  refine Tr.seqN (by kernel_rfl) ?_
  refine Tr.seqN (by kernel_rfl) ?_
  refine Tr.regionN (by kernel_rfl) ?_
  refine TrAt.goS good 2 [(8, .pt 400140 0), (9, vB false)] [] (by kernel_rfl) ?_
  refine TrAt.end_ (by kernel_rfl) ?_
  refine thenQ_n ?_
  refine Tr.condF (by kernel_rfl) (by kernel_rfl) ?_
  refine Tr.skipN (by kernel_rfl) ?_
  refine thenQ_n ?_
  refine Tr.seqN (by kernel_rfl) ?_
  refine Tr.seqN (by kernel_rfl) ?_
  refine Tr.regionN (by kernel_rfl) ?_
  refine TrAt.goS good 1 [(4, vI .i64 0)] [] (by kernel_rfl) ?_
  refine TrAt.end_ (by kernel_rfl) ?_
  refine thenQ_n ?_
  refine Tr.blockN (by kernel_rfl) ?_
  obtain ⟨y16426, h16427, h0⟩ := bind_out h0
  refine Tr.conv (Conv.nilBox 400140 59 [.t (.sc (.slice none 0 0)), vI .u32 0] 0 200102 35 3 (by kernel_rfl) (by kernel_rfl) (by kernel_rfl) (by kernel_rfl)) ?_
  refine Tr.conv (Conv.normT (keep := [0, 3, 4]) (ρ := [(400140, 300000), (200102, 300001)]) ⟨upd (upd (upd (deadT) 4 (vI .i64 0)) 3 (.pt 300000 0)) 0 (.t (.fz .u (x1248.map en28))), upd (upd (emptyS) 300001 (some (some (.ar 35 3 (([]).map en35))))) 300000 (some (some (.bx 59 [.sl .n 300001, vI .u32 0]))), 61, []⟩ (by kernel_rfl)) ?_
  refine Tr.retJoin (fun st => ∃ y16428 : Unit, y16426 = (Sum.inl y16428) ∧ st = ⟨deadT, emptyS, 61, []⟩) ?_ ?_
  · rintro st ⟨y16428, hz, rfl⟩
    subst hz
    have h0 : some () = some r := h0
    refine inBlockQ_r ?_
    refine thenQ_r ?_
    cases h0
    exact finQ_r (by kernel_rfl) (by kernel_rfl)
  refine Tr.exJoin 0 (fun st => ∃ y16429 : (Int × (List E35)), y16426 = (Sum.inr y16429) ∧ st = ⟨upd (deadT) 3 (.pt 300000 0), upd (upd (emptyS) 300001 (some (some (.ar 35 3 (y16429.2.map en35))))) 300000 (some (some (.bx 59 [.sl .n 300001, vI .u32 y16429.1]))), 61, []⟩) ?_ ?_
  · rintro st ⟨y16429, hz, rfl⟩
    subst hz
    have h0 : F8_1 k y16429 = some r := h0
    refine retJ_x ?_
    unfold F8_1 at h0
    refine inBlockQ_hit (by kernel_rfl) ?_
    refine thenQ_n ?_
    refine Tr.seqN (by kernel_rfl) ?_
    refine Tr.regionN (by kernel_rfl) ?_
    refine TrAt.goS good 2 [(60, .pt 300000 0), (2, .pt 300000 0)] [] (by kernel_rfl) ?_
    refine TrAt.end_ (by kernel_rfl) ?_
    refine thenQ_n ?_
    refine Tr.conv (Conv.normT (keep := []) (ρ := []) ⟨deadT, emptyS, 61, []⟩ (by kernel_rfl)) ?_
    refine Tr.retN (by kernel_rfl) ?_
    cases h0
    exact finQ_r (by kernel_rfl) (by kernel_rfl)
  refine Tr.loopN (fun n st => ∃ y15413, ∃ y15414, ∃ y15415, F8_2 k x1248 n y15413 y15414 y15415 = some y16426 ∧ st = ⟨upd (upd (upd (deadT) 4 (vI .i64 y15413)) 3 (.pt 300000 0)) 0 (.t (.fz .u (x1248.map en28))), upd (upd (emptyS) 300001 (some (some (.ar 35 3 (y15415.map en35))))) 300000 (some (some (.bx 59 [.sl .n 300001, vI .u32 y15414]))), 61, []⟩) k (by kernel_rfl) ⟨0, 0, [], h16427, rfl⟩ ?_
  rintro n16431 st ⟨y15413, y15414, y15415, h16430, rfl⟩
  cases n16431 with
  | zero => exact nomatch (show (none : Option (Sum Unit (Int × (List E35)))) = some y16426 from h16430)
  | succ n16431 =>
    unfold F8_2 at h16430
    refine Tr.seqN (by kernel_rfl) ?_
    refine Tr.seqI (fun st => ∃ y16432, F8_3 k (F8_2 k x1248 n16431) x1248 y15413 y15414 y15415 y16432 = some y16426 ∧ st = ⟨upd (upd (upd (upd (deadT) 17 (vB y16432)) 4 (vI .i64 y15413)) 3 (.pt 300000 0)) 0 (.t (.fz .u (x1248.map en28))), upd (upd (emptyS) 300001 (some (some (.ar 35 3 (y15415.map en35))))) 300000 (some (some (.bx 59 [.sl .n 300001, vI .u32 y15414]))), 61, []⟩) (by kernel_rfl) ?_ ?_
    · refine Tr.regionN (by kernel_rfl) ?_
      refine TrAt.goS good 2 [(10, vI .i64 y15413), (11, .t (.fz .u (x1248.map en28)))] [] (by kernel_rfl) ?_
      refine TrAt.lawP 12 _ _ (by kernel_rfl) (by kernel_rfl) (by kernel_rfl) (by kernel_rfl) (lenFz_ok good (t := 22) (e := 28) (x := .tmp 11) (nl := .u) (enc := en28) (xs := x1248) (by kernel_rfl) (by kernel_rfl) (by kernel_rfl)) ?_
      refine TrAt.goS good 2 [(13, vB (decide (y15413 < (x1248.length : Int)))), (14, vB (decide (y15413 < (x1248.length : Int))))] [] (by kernel_rfl) ?_
      cases g17423 : ((decide (y15413 < (x1248.length : Int))) : Bool) with
      | true =>
        have h16430 := cond_t g17423 h16430
        refine TrAt.goS good 3 [(15, vI .i64 y15413), (16, vB (decide (y15413 < 20))), (17, vB (decide (y15413 < 20)))] [] (by kernel_rfl) ?_
        refine TrAt.conv (Conv.normT (keep := [0, 3, 4, 17]) (ρ := [(300000, 300000), (300001, 300001)]) ⟨upd (upd (upd (upd (deadT) 17 (vB (decide (y15413 < 20)))) 4 (vI .i64 y15413)) 3 (.pt 300000 0)) 0 (.t (.fz .u (x1248.map en28))), upd (upd (emptyS) 300001 (some (some (.ar 35 3 (y15415.map en35))))) 300000 (some (some (.bx 59 [.sl .n 300001, vI .u32 y15414]))), 61, []⟩ (by kernel_rfl)) ?_
        refine TrAt.end_ (by kernel_rfl) ?_
        refine thenI_n ?_
        exact ⟨(decide (y15413 < 20)), h16430, rfl⟩
      | false =>
        have h16430 := cond_f g17423 h16430
        refine TrAt.goS good 3 [(15, .tp []), (16, .tp []), (17, vB false)] [] (by kernel_rfl) ?_
        refine TrAt.conv (Conv.normT (keep := [0, 3, 4, 17]) (ρ := [(300000, 300000), (300001, 300001)]) ⟨upd (upd (upd (upd (deadT) 17 (vB false)) 4 (vI .i64 y15413)) 3 (.pt 300000 0)) 0 (.t (.fz .u (x1248.map en28))), upd (upd (emptyS) 300001 (some (some (.ar 35 3 (y15415.map en35))))) 300000 (some (some (.bx 59 [.sl .n 300001, vI .u32 y15414]))), 61, []⟩ (by kernel_rfl)) ?_
        refine TrAt.end_ (by kernel_rfl) ?_
        refine thenI_n ?_
        exact ⟨false, h16430, rfl⟩
    · rintro st ⟨y16432, h16430, rfl⟩
      unfold F8_3 at h16430
      refine Tr.condN y16432 (by kernel_rfl) (by kernel_rfl) ?_ ?_
      · intro g16433
        have h16430 := cond_t g16433 h16430
        refine Tr.skipN (by kernel_rfl) ?_
        refine thenQ_n ?_
        refine Tr.seqN (by kernel_rfl) ?_
        refine Tr.blockN (by kernel_rfl) ?_
        refine Tr.seqN (by kernel_rfl) ?_
        refine Tr.regionN (by kernel_rfl) ?_
        refine TrAt.goS good 1 [(5, .t (.sc (.slice none 0 0)))] [] (by kernel_rfl) ?_
        refine TrAt.end_ (by kernel_rfl) ?_
        refine thenQ_n ?_
        refine Tr.seqN (by kernel_rfl) ?_
        refine Tr.seqN (by kernel_rfl) ?_
        refine Tr.regionN (by kernel_rfl) ?_
        refine TrAt.goS good 1 [(6, vI .i64 0)] [] (by kernel_rfl) ?_
        refine TrAt.end_ (by kernel_rfl) ?_
        refine thenQ_n ?_
        refine Tr.blockN (by kernel_rfl) ?_
        obtain ⟨y17371, h17372, h16430⟩ := bind_out h16430
        refine Tr.conv (Conv.nilSl 5 200101 50 2 (by kernel_rfl) (by kernel_rfl) (by kernel_rfl)) ?_
        refine Tr.conv (Conv.normT (keep := [0, 3, 4, 5, 6]) (ρ := [(300000, 300000), (200101, 300001), (300001, 300002)]) ⟨upd (upd (upd (upd (upd (deadT) 6 (vI .i64 0)) 5 (.sl .n 300001)) 4 (vI .i64 y15413)) 3 (.pt 300000 0)) 0 (.t (.fz .u (x1248.map en28))), upd (upd (upd (emptyS) 300002 (some (some (.ar 35 3 (y15415.map en35))))) 300001 (some (some (.ar 50 2 (([]).map en50))))) 300000 (some (some (.bx 59 [.sl .n 300002, vI .u32 y15414]))), 61, []⟩ (by kernel_rfl)) ?_
        refine Tr.exJoin 2 (fun st => st = ⟨upd (upd (upd (upd (deadT) 5 (.sl .n 300001)) 4 (vI .i64 y15413)) 3 (.pt 300000 0)) 0 (.t (.fz .u (x1248.map en28))), upd (upd (upd (emptyS) 300002 (some (some (.ar 35 3 (y15415.map en35))))) 300001 (some (some (.ar 50 2 (y17371.map en50))))) 300000 (some (some (.bx 59 [.sl .n 300002, vI .u32 y15414]))), 61, []⟩) ?_ ?_
        · rintro st rfl
          have h16430 : F8_4 k (F8_2 k x1248 n16431) y15413 y15414 y15415 y17371 = some y16426 := h16430
          unfold F8_4 at h16430
          refine inBlockQ_hit (by kernel_rfl) ?_
          refine thenQ_n ?_
          refine Tr.seqI (fun st => ∃ y17374, F8_5 k (F8_2 k x1248 n16431) y15413 y15414 y15415 y17374 = some y16426 ∧ st = ⟨upd (upd (upd (upd (deadT) 5 (.sl .u 300001)) 4 (vI .i64 y15413)) 3 (.pt 300000 0)) 0 (.t (.fz .u (x1248.map en28))), upd (upd (upd (emptyS) 300002 (some (some (.ar 35 3 (y15415.map en35))))) 300001 (some (some (.ar 50 2 (y17374.map en50))))) 300000 (some (some (.bx 59 [.sl .n 300002, vI .u32 y15414]))), 61, []⟩) (by kernel_rfl) ?_ ?_
          · refine Tr.seqN (by kernel_rfl) ?_
            refine Tr.regionN (by kernel_rfl) ?_
            refine TrAt.goS good 1 [(46, .sl .n 300001)] [] (by kernel_rfl) ?_
            refine TrAt.lawP 47 _ _ (by kernel_rfl) (by kernel_rfl) (by kernel_rfl) (by kernel_rfl) (lenSl_ok good (t := 33) (e := 50) (x := .tmp 46) (nl := .n) (enc := en50) (xs := y17371) (nm := 300001) (e' := 50) (sz := 2) (by kernel_rfl) (by kernel_rfl) (by kernel_rfl) (by kernel_rfl)) ?_
            refine TrAt.goS good 1 [(48, vB ((y17371.length : Int) == 0))] [] (by kernel_rfl) ?_
            refine TrAt.end_ (by kernel_rfl) ?_
            refine thenQ_n ?_
            refine Tr.condN ((y17371.length : Int) == 0) (by kernel_rfl) (by kernel_rfl) ?_ ?_
            · intro g17380
              have h16430 := cond_t g17380 h16430
              refine Tr.regionN (by kernel_rfl) ?_
              refine TrAt.goS good 2 [(49, vI .i64 y15413), (50, .ag [vI .i64 0, vI .i64 y15413])] [] (by kernel_rfl) ?_
              refine TrAt.lawP 51 _ _ (by kernel_rfl) (by kernel_rfl) (by kernel_rfl) (by kernel_rfl) (bsP_ok good (t := 33) (e := 50) (d := 51) (len := 1) (parts := #[(0, .tmp 50)]) (rows := ([(E50.mk 0 y15413)]).map en50) (by kernel_rfl) (by kernel_rfl) (by kernel_rfl) (by kernel_rfl) (by kernel_rfl) (by kernel_rfl)) ?_
              refine TrAt.goS good 1 [(5, .sl .e 51)] [] (by kernel_rfl) ?_
              refine TrAt.conv (Conv.weak 5 (.sl .e 51) (.sl .u 51) (by kernel_rfl) (.sl _ _)) ?_
              refine TrAt.conv (Conv.normT (keep := [0, 3, 4, 5]) (ρ := [(300000, 300000), (51, 300001), (300002, 300002)]) ⟨upd (upd (upd (upd (deadT) 5 (.sl .u 300001)) 4 (vI .i64 y15413)) 3 (.pt 300000 0)) 0 (.t (.fz .u (x1248.map en28))), upd (upd (upd (emptyS) 300002 (some (some (.ar 35 3 (y15415.map en35))))) 300001 (some (some (.ar 50 2 (([(E50.mk 0 y15413)]).map en50))))) 300000 (some (some (.bx 59 [.sl .n 300002, vI .u32 y15414]))), 61, []⟩ (by kernel_rfl)) ?_
              refine TrAt.end_ (by kernel_rfl) ?_
              refine thenI_n ?_
              exact ⟨[(E50.mk 0 y15413)], h16430, rfl⟩
            · intro g17380
              have h16430 := cond_f g17380 h16430
              refine Tr.conv (Conv.weak 5 (.sl .n 300001) (.sl .u 300001) (by kernel_rfl) (.sl _ _)) ?_
              refine Tr.conv (Conv.normT (keep := [0, 3, 4, 5]) (ρ := [(300000, 300000), (300001, 300001), (300002, 300002)]) ⟨upd (upd (upd (upd (deadT) 5 (.sl .u 300001)) 4 (vI .i64 y15413)) 3 (.pt 300000 0)) 0 (.t (.fz .u (x1248.map en28))), upd (upd (upd (emptyS) 300002 (some (some (.ar 35 3 (y15415.map en35))))) 300001 (some (some (.ar 50 2 (y17371.map en50))))) 300000 (some (some (.bx 59 [.sl .n 300002, vI .u32 y15414]))), 61, []⟩ (by kernel_rfl)) ?_
              refine Tr.skipN (by kernel_rfl) ?_
              refine thenI_n ?_
              exact ⟨y17371, h16430, rfl⟩
          · rintro st ⟨y17374, h16430, rfl⟩
            unfold F8_5 at h16430
            refine Tr.seqN (by kernel_rfl) ?_
            refine Tr.regionN (by kernel_rfl) ?_
            refine TrAt.goS good 6 [(52, .pt 300000 0), (53, vI .i64 y15413), (54, vI .i64 (IntKind.wrap .i64 (y15413 + 1))), (55, vI .u32 (IntKind.wrap .u32 (IntKind.wrap .i64 (y15413 + 1)))), (56, .sl .u 300001), (57, .ag [vI .u32 (IntKind.wrap .u32 (IntKind.wrap .i64 (y15413 + 1))), vI .u32 1, .sl .u 300001])] [] (by kernel_rfl) ?_
            obtain ⟨y17377, h17378, h16430⟩ := bind_out h16430
            refine TrAt.callD (caps := []) 58 (vI .i64 y17377.1) [(1000000, 300000), (1000001, 300001), (1000002, 300002)] [(500000, 401160)] (.func 14) #[.tmp 52, .tmp 57] #[23, 35] (ct_F14_v4 k (IntKind.wrap .u32 (IntKind.wrap .i64 (y15413 + 1))) 1 y15414 y17374 y15415 y17377 h17378) Try.func14 (by kernel_rfl) (by kernel_rfl) (by kernel_rfl) (by kernel_rfl) (by kernel_rfl) (by kernel_rfl) (by kernel_rfl) (by kernel_rfl) (by kernel_rfl) (by kernel_rfl) (by kernel_rfl) (by kernel_rfl) (by kernel_rfl) (by kernel_rfl) (by kernel_rfl) ?_
            refine TrAt.goS good 1 [(59, vB (y17377.1 != 0))] [] (by kernel_rfl) ?_
            refine TrAt.end_ (by kernel_rfl) ?_
            refine thenQ_n ?_
            refine Tr.condN (y17377.1 != 0) (by kernel_rfl) (by kernel_rfl) ?_ ?_
            · intro g17379
              have h16430 := cond_t g17379 h16430
              refine Tr.seqN (by kernel_rfl) ?_
              refine Tr.regionN (by kernel_rfl) ?_
              refine TrAt.goS good 1 [(2, .t (.sc (.pointer none)))] [] (by kernel_rfl) ?_
              refine TrAt.end_ (by kernel_rfl) ?_
              refine thenQ_n ?_
              refine Tr.conv (Conv.normT (keep := []) (ρ := []) ⟨deadT, emptyS, 61, []⟩ (by kernel_rfl)) ?_
              refine Tr.retN (by kernel_rfl) ?_
              refine inBlockQ_r ?_
              refine thenQ_r ?_
              refine loopQ_r ?_
              refine exQ_r ?_
              refine retJ_r ?_
              exact ⟨(), (Option.some.inj h16430).symm, rfl⟩
            · intro g17379
              have h16430 := cond_f g17379 h16430
              refine Tr.skipN (by kernel_rfl) ?_
              refine inBlockQ_n ?_
              refine thenQ_n ?_
              refine Tr.regionN (by kernel_rfl) ?_
              refine TrAt.goS good 3 [(18, vI .i64 y15413), (19, vI .i64 (IntKind.wrap .i64 (y15413 + 1))), (4, vI .i64 (IntKind.wrap .i64 (y15413 + 1)))] [] (by kernel_rfl) ?_
              refine TrAt.conv (Conv.normT (keep := [0, 3, 4]) (ρ := [(300000, 300000), (401160, 300001)]) ⟨upd (upd (upd (deadT) 4 (vI .i64 (IntKind.wrap .i64 (y15413 + 1)))) 3 (.pt 300000 0)) 0 (.t (.fz .u (x1248.map en28))), upd (upd (emptyS) 300001 (some (some (.ar 35 3 (y17377.2.2.map en35))))) 300000 (some (some (.bx 59 [.sl .n 300001, vI .u32 y17377.2.1]))), 61, []⟩ (by kernel_rfl)) ?_
              refine TrAt.end_ (by kernel_rfl) ?_
              refine loopQ_n ?_
              exact ⟨(IntKind.wrap .i64 (y15413 + 1)), y17377.2.1, y17377.2.2, h16430, rfl⟩
        refine Tr.loopN (fun n st => ∃ y17316, ∃ y17317, F8_6 k x1248 y15413 n y17316 y17317 = some y17371 ∧ st = ⟨upd (upd (upd (upd (upd (deadT) 6 (vI .i64 y17316)) 5 (.sl .n 300001)) 4 (vI .i64 y15413)) 3 (.pt 300000 0)) 0 (.t (.fz .u (x1248.map en28))), upd (upd (upd (emptyS) 300002 (some (some (.ar 35 3 (y15415.map en35))))) 300001 (some (some (.ar 50 2 (y17317.map en50))))) 300000 (some (some (.bx 59 [.sl .n 300002, vI .u32 y15414]))), 61, []⟩) k (by kernel_rfl) ⟨0, [], h17372, rfl⟩ ?_
        rintro n17382 st ⟨y17316, y17317, h17381, rfl⟩
        cases n17382 with
        | zero => exact nomatch (show (none : Option (List E50)) = some y17371 from h17381)
        | succ n17382 =>
          unfold F8_6 at h17381
          refine Tr.seqN (by kernel_rfl) ?_
          refine Tr.seqI (fun st => ∃ y17383, F8_7 k (F8_6 k x1248 y15413 n17382) x1248 y15413 y17316 y17317 y17383 = some y17371 ∧ st = ⟨upd (upd (upd (upd (upd (upd (deadT) 30 (vB y17383)) 6 (vI .i64 y17316)) 5 (.sl .n 300001)) 4 (vI .i64 y15413)) 3 (.pt 300000 0)) 0 (.t (.fz .u (x1248.map en28))), upd (upd (upd (emptyS) 300002 (some (some (.ar 35 3 (y15415.map en35))))) 300001 (some (some (.ar 50 2 (y17317.map en50))))) 300000 (some (some (.bx 59 [.sl .n 300002, vI .u32 y15414]))), 61, []⟩) (by kernel_rfl) ?_ ?_
          · refine Tr.regionN (by kernel_rfl) ?_
            refine TrAt.goS good 3 [(20, vI .i64 y17316), (21, .t (.fz .u (x1248.map en28))), (22, vI .i64 y15413)] [] (by kernel_rfl) ?_
            obtain ⟨x17418, h17419, h17381⟩ := bind_out h17381
            obtain ⟨h17420, h17421⟩ := ix_out h17419
            refine TrAt.lawP 23 _ _ (by kernel_rfl) (by kernel_rfl) (by kernel_rfl) (by kernel_rfl) (ixFz_ok good (t := 22) (e := 28) (x := .tmp 21) (i := .tmp 22) (nl := .u) (enc := en28) (xs := x1248) (k := .i64) (n := y15413) (a := x17418) (by kernel_rfl) (by kernel_rfl) (by kernel_rfl) wide28 (by kernel_rfl) (by kernel_rfl) h17420 h17421) ?_
            refine TrAt.goS good 1 [(24, .t (.fz .u (x17418.map en3)))] [] (by kernel_rfl) ?_
            refine TrAt.lawP 25 _ _ (by kernel_rfl) (by kernel_rfl) (by kernel_rfl) (by kernel_rfl) (lenFz_ok good (t := 28) (e := 3) (x := .tmp 24) (nl := .u) (enc := en3) (xs := x17418) (by kernel_rfl) (by kernel_rfl) (by kernel_rfl)) ?_
            refine TrAt.goS good 2 [(26, vB (decide (y17316 < (x17418.length : Int)))), (27, vB (decide (y17316 < (x17418.length : Int))))] [] (by kernel_rfl) ?_
            cases g17422 : ((decide (y17316 < (x17418.length : Int))) : Bool) with
            | true =>
              have h17381 := cond_t g17422 h17381
              refine TrAt.goS good 3 [(28, vI .i64 y17316), (29, vB (decide (y17316 < 5))), (30, vB (decide (y17316 < 5)))] [] (by kernel_rfl) ?_
              refine TrAt.conv (Conv.normT (keep := [0, 3, 4, 5, 6, 30]) (ρ := [(300000, 300000), (300001, 300001), (300002, 300002)]) ⟨upd (upd (upd (upd (upd (upd (deadT) 30 (vB (decide (y17316 < 5)))) 6 (vI .i64 y17316)) 5 (.sl .n 300001)) 4 (vI .i64 y15413)) 3 (.pt 300000 0)) 0 (.t (.fz .u (x1248.map en28))), upd (upd (upd (emptyS) 300002 (some (some (.ar 35 3 (y15415.map en35))))) 300001 (some (some (.ar 50 2 (y17317.map en50))))) 300000 (some (some (.bx 59 [.sl .n 300002, vI .u32 y15414]))), 61, []⟩ (by kernel_rfl)) ?_
              refine TrAt.end_ (by kernel_rfl) ?_
              refine thenI_n ?_
              exact ⟨(decide (y17316 < 5)), h17381, rfl⟩
            | false =>
              have h17381 := cond_f g17422 h17381
              refine TrAt.goS good 3 [(28, .tp []), (29, .tp []), (30, vB false)] [] (by kernel_rfl) ?_
              refine TrAt.conv (Conv.normT (keep := [0, 3, 4, 5, 6, 30]) (ρ := [(300000, 300000), (300001, 300001), (300002, 300002)]) ⟨upd (upd (upd (upd (upd (upd (deadT) 30 (vB false)) 6 (vI .i64 y17316)) 5 (.sl .n 300001)) 4 (vI .i64 y15413)) 3 (.pt 300000 0)) 0 (.t (.fz .u (x1248.map en28))), upd (upd (upd (emptyS) 300002 (some (some (.ar 35 3 (y15415.map en35))))) 300001 (some (some (.ar 50 2 (y17317.map en50))))) 300000 (some (some (.bx 59 [.sl .n 300002, vI .u32 y15414]))), 61, []⟩ (by kernel_rfl)) ?_
              refine TrAt.end_ (by kernel_rfl) ?_
              refine thenI_n ?_
              exact ⟨false, h17381, rfl⟩
          · rintro st ⟨y17383, h17381, rfl⟩
            unfold F8_7 at h17381
            refine Tr.condN y17383 (by kernel_rfl) (by kernel_rfl) ?_ ?_
            · intro g17384
              have h17381 := cond_t g17384 h17381
              refine Tr.skipN (by kernel_rfl) ?_
              refine thenQ_n ?_
              refine Tr.seqN (by kernel_rfl) ?_
              refine Tr.blockN (by kernel_rfl) ?_
              refine Tr.regionN (by kernel_rfl) ?_
              refine TrAt.goS good 3 [(33, .sl .n 300001), (34, .t (.fz .u (x1248.map en28))), (35, vI .i64 y15413)] [] (by kernel_rfl) ?_
              obtain ⟨x17407, h17408, h17381⟩ := bind_out h17381
              obtain ⟨h17409, h17410⟩ := ix_out h17408
              refine TrAt.lawP 36 _ _ (by kernel_rfl) (by kernel_rfl) (by kernel_rfl) (by kernel_rfl) (ixFz_ok good (t := 22) (e := 28) (x := .tmp 34) (i := .tmp 35) (nl := .u) (enc := en28) (xs := x1248) (k := .i64) (n := y15413) (a := x17407) (by kernel_rfl) (by kernel_rfl) (by kernel_rfl) wide28 (by kernel_rfl) (by kernel_rfl) h17409 h17410) ?_
              refine TrAt.goS good 2 [(37, .t (.fz .u (x17407.map en3))), (38, vI .i64 y17316)] [] (by kernel_rfl) ?_
              obtain ⟨x17411, h17412, h17381⟩ := bind_out h17381
              obtain ⟨h17413, h17414⟩ := ix_out h17412
              refine TrAt.lawP 39 _ _ (by kernel_rfl) (by kernel_rfl) (by kernel_rfl) (by kernel_rfl) (ixFz_ok good (t := 28) (e := 3) (x := .tmp 37) (i := .tmp 38) (nl := .u) (enc := en3) (xs := x17407) (k := .i64) (n := y17316) (a := x17411) (by kernel_rfl) (by kernel_rfl) (by kernel_rfl) wide3 (by kernel_rfl) (by kernel_rfl) h17413 h17414) ?_
              refine TrAt.goS good 1 [(40, vI .i64 x17411)] [] (by kernel_rfl) ?_
              obtain ⟨y17415, h17416, h17381⟩ := bind_out h17381
              refine TrAt.callD (caps := []) 41 (vI .i64 y17415) [] [] (.func 10) #[.tmp 40, .const (.int .i64 4)] #[3, 3] (ct_F10 k x17411 4 y17415 h17416) Try.func10 (by kernel_rfl) (by kernel_rfl) (by kernel_rfl) (by kernel_rfl) (by kernel_rfl) (by kernel_rfl) (by kernel_rfl) (by kernel_rfl) (by kernel_rfl) (by kernel_rfl) (by kernel_rfl) (by kernel_rfl) (by kernel_rfl) (by kernel_rfl) (by kernel_rfl) ?_
              refine TrAt.goS good 2 [(42, vI .i64 y17316), (43, .ag [vI .i64 y17415, vI .i64 y17316])] [] (by kernel_rfl) ?_
              refine TrAt.lawP 44 _ _ (by kernel_rfl) (by kernel_rfl) (by kernel_rfl) (by kernel_rfl) (bsP_ok good (t := 33) (e := 50) (d := 44) (len := 1) (parts := #[(0, .tmp 43)]) (rows := ([(E50.mk y17415 y17316)]).map en50) (by kernel_rfl) (by kernel_rfl) (by kernel_rfl) (by kernel_rfl) (by kernel_rfl) (by kernel_rfl)) ?_
              obtain ⟨g17417, h17381⟩ := grd_out h17381
              refine TrAt.lawP 45 _ _ (by kernel_rfl) (by kernel_rfl) (by kernel_rfl) (by kernel_rfl) (apP_ok good (x := .tmp 33) (y := .tmp 44) (t := 33) (e := 50) (d := 45) (nl := .n) (enc := en50) (xs := y17317) (ys := [(E50.mk y17415 y17316)]) (oo := (some 300001)) (bz := 16) (by kernel_rfl) (by kernel_rfl) (by kernel_rfl) (by kernel_rfl) (by kernel_rfl) (by kernel_rfl) wide50 (by kernel_rfl) g17417) ?_
              refine TrAt.goS good 1 [(5, .sl .n 45)] [] (by kernel_rfl) ?_
              refine TrAt.end_ (by kernel_rfl) ?_
              refine inBlockQ_n ?_
              refine thenQ_n ?_
              refine Tr.regionN (by kernel_rfl) ?_
              refine TrAt.goS good 3 [(31, vI .i64 y17316), (32, vI .i64 (IntKind.wrap .i64 (y17316 + 1))), (6, vI .i64 (IntKind.wrap .i64 (y17316 + 1)))] [] (by kernel_rfl) ?_
              refine TrAt.conv (Conv.normT (keep := [0, 3, 4, 5, 6]) (ρ := [(300000, 300000), (45, 300001), (300002, 300002)]) ⟨upd (upd (upd (upd (upd (deadT) 6 (vI .i64 (IntKind.wrap .i64 (y17316 + 1)))) 5 (.sl .n 300001)) 4 (vI .i64 y15413)) 3 (.pt 300000 0)) 0 (.t (.fz .u (x1248.map en28))), upd (upd (upd (emptyS) 300002 (some (some (.ar 35 3 (y15415.map en35))))) 300001 (some (some (.ar 50 2 ((y17317 ++ ([(E50.mk y17415 y17316)])).map en50))))) 300000 (some (some (.bx 59 [.sl .n 300002, vI .u32 y15414]))), 61, []⟩ (by kernel_rfl)) ?_
              refine TrAt.end_ (by kernel_rfl) ?_
              refine loopQ_n ?_
              exact ⟨(IntKind.wrap .i64 (y17316 + 1)), (y17317 ++ ([(E50.mk y17415 y17316)])), h17381, rfl⟩
            · intro g17384
              have h17381 := cond_f g17384 h17381
              refine Tr.conv (Conv.normT (keep := [0, 3, 4, 5]) (ρ := [(300000, 300000), (300001, 300001), (300002, 300002)]) ⟨upd (upd (upd (upd (deadT) 5 (.sl .n 300001)) 4 (vI .i64 y15413)) 3 (.pt 300000 0)) 0 (.t (.fz .u (x1248.map en28))), upd (upd (upd (emptyS) 300002 (some (some (.ar 35 3 (y15415.map en35))))) 300001 (some (some (.ar 50 2 (y17317.map en50))))) 300000 (some (some (.bx 59 [.sl .n 300002, vI .u32 y15414]))), 61, []⟩ (by kernel_rfl)) ?_
              refine Tr.exitN (by kernel_rfl) ?_
              refine thenQ_x ?_
              refine loopQ_x ?_
              refine exQ_hit (by kernel_rfl) ?_
              cases h17381
              rfl
      · intro g16433
        have h16430 := cond_f g16433 h16430
        refine Tr.conv (Conv.normT (keep := [3]) (ρ := [(300000, 300000), (300001, 300001)]) ⟨upd (deadT) 3 (.pt 300000 0), upd (upd (emptyS) 300001 (some (some (.ar 35 3 (y15415.map en35))))) 300000 (some (some (.bx 59 [.sl .n 300001, vI .u32 y15414]))), 61, []⟩ (by kernel_rfl)) ?_
        refine Tr.exitN (by kernel_rfl) ?_
        refine thenQ_x ?_
        refine loopQ_x ?_
        refine exQ_hit (by kernel_rfl) ?_
        exact ⟨(y15414, y15415), (Option.some.inj h16430).symm, rfl⟩
def F30_v2 (k : Nat) (x17469 : (List E50)) : Option (List E50) :=
  grd (decide ((([] : List E50).length + x17469.length) * 16 ≤ 140737488355328)) <|
  some (([] : List E50) ++ x17469)
theorem ct_F30_v2 (k : Nat) (x17469 : (List E50)) (r : (List E50)) (h0 : F30_v2 k x17469 = some r) : CTd Try.prog 30 [.t (.fz .u (x17469.map en50))] [] (.sl .u 500000) (upd (emptyS) 500000 (some (some (.ar 50 2 (r.map en50))))) := by
  refine CTd.of_tr Try.f30 Try.func30 (by kernel_rfl) ?_
  unfold F30_v2 at h0
  refine Tr.conv (Conv.normT (keep := [0]) (ρ := []) ⟨upd (deadT) 0 (.t (.fz .u (x17469.map en50))), emptyS, 8, []⟩ (by kernel_rfl)) ?_
  refine Tr.seqN (by kernel_rfl) ?_
  refine Tr.regionN (by kernel_rfl) ?_
  refine TrAt.goS good 1 [(2, .t (.sc (.slice none 0 0)))] [] (by kernel_rfl) ?_
  refine TrAt.end_ (by kernel_rfl) ?_
  refine thenQ_n ?_
  refine Tr.seqN (by kernel_rfl) ?_
  refine Tr.seqN (by kernel_rfl) ?_
  refine Tr.regionN (by kernel_rfl) ?_
  refine TrAt.goS good 1 [(3, .t (.fz .u (x17469.map en50)))] [] (by kernel_rfl) ?_
  refine TrAt.nilFz 3 (x17469.map en50) (by kernel_rfl) (fun h17476 => ?_) ?_
  · refine TrAt.goS good 1 [(4, vB true)] [] (by kernel_rfl) ?_
    refine TrAt.end_ (by kernel_rfl) ?_
    refine thenQ_n ?_
    refine Tr.condT (by kernel_rfl) (by kernel_rfl) ?_
    refine Tr.seqN (by kernel_rfl) ?_
    refine Tr.regionN (by kernel_rfl) ?_
    refine TrAt.goS good 1 [(2, .t (.sc (.slice none 0 0)))] [] (by kernel_rfl) ?_
    refine TrAt.end_ (by kernel_rfl) ?_
    refine thenQ_n ?_
    refine Tr.conv (Conv.nilSl 2 200103 50 2 (by kernel_rfl) (by kernel_rfl) (by kernel_rfl)) ?_
    refine Tr.conv (Conv.weak 2 (.sl .n 200103) (.sl .u 200103) (by kernel_rfl) (.sl _ _)) ?_
    refine Tr.conv (Conv.normT (keep := [2]) (ρ := [(200103, 500000)]) ⟨upd (deadT) 2 (.sl .u 500000), upd (emptyS) 500000 (some (some (.ar 50 2 (([]).map en50)))), 8, []⟩ (by kernel_rfl)) ?_
    refine Tr.retN (by kernel_rfl) ?_
    refine thenQ_r ?_
    have h17476 := map_nil_of h17476
    subst h17476
    cases h0
    exact finQ_r (by kernel_rfl) (by kernel_rfl)
  · refine TrAt.goS good 1 [(4, vB false)] [] (by kernel_rfl) ?_
    refine TrAt.end_ (by kernel_rfl) ?_
    refine thenQ_n ?_
    refine Tr.condF (by kernel_rfl) (by kernel_rfl) ?_
    refine Tr.skipN (by kernel_rfl) ?_
    refine thenQ_n ?_
    refine Tr.seqN (by kernel_rfl) ?_
    refine Tr.regionN (by kernel_rfl) ?_
    refine TrAt.lawP 5 _ _ (by kernel_rfl) (by kernel_rfl) (by kernel_rfl) (by kernel_rfl) (bsP_ok good (t := 33) (e := 50) (d := 5) (len := 0) (parts := #[]) (rows := (([] : List E50)).map en50) (by kernel_rfl) (by kernel_rfl) (by kernel_rfl) (by kernel_rfl) (by kernel_rfl) (by kernel_rfl)) ?_
    refine TrAt.goS good 1 [(6, .t (.fz .u (x17469.map en50)))] [] (by kernel_rfl) ?_
    obtain ⟨g17477, h0⟩ := grd_out h0
    refine TrAt.lawP 7 _ _ (by kernel_rfl) (by kernel_rfl) (by kernel_rfl) (by kernel_rfl) (apP_ok good (x := .tmp 5) (y := .tmp 6) (t := 33) (e := 50) (d := 7) (nl := .e) (enc := en50) (xs := ([] : List E50)) (ys := x17469) (oo := (some 5)) (bz := 16) (by kernel_rfl) (by kernel_rfl) (by kernel_rfl) (by kernel_rfl) (by kernel_rfl) (by kernel_rfl) wide50 (by kernel_rfl) g17477) ?_
    refine TrAt.goS good 1 [(2, .sl .e 7)] [] (by kernel_rfl) ?_
    refine TrAt.end_ (by kernel_rfl) ?_
    refine thenQ_n ?_
    refine Tr.conv (Conv.weak 2 (.sl .e 7) (.sl .u 7) (by kernel_rfl) (.sl _ _)) ?_
    refine Tr.conv (Conv.normT (keep := [2]) (ρ := [(7, 500000)]) ⟨upd (deadT) 2 (.sl .u 500000), upd (emptyS) 500000 (some (some (.ar 50 2 ((([] : List E50) ++ x17469).map en50)))), 8, []⟩ (by kernel_rfl)) ?_
    refine Tr.retN (by kernel_rfl) ?_
    cases h0
    exact finQ_r (by kernel_rfl) (by kernel_rfl)
def F26_v2 (k : Nat) (x17466 : Int) (x17467 : Int) (x17468 : (List E50)) : Option (List E50) :=
  (F30_v2 k x17468).bind fun y17483 =>
  some y17483
theorem ct_F26_v2 (k : Nat) (x17466 : Int) (x17467 : Int) (x17468 : (List E50)) (r : (List E50)) (h0 : F26_v2 k x17466 x17467 x17468 = some r) : CTd Try.prog 26 [.ag [vI .u32 x17466, vI .u32 x17467, .t (.fz .u (x17468.map en50))]] [] (.ag [vI .u32 x17466, vI .u32 x17467, .t (.fz .u (r.map en50))]) (upd (emptyS) 500000 (some (some (.bx 35 [vI .u32 x17466, vI .u32 x17467, .t (.fz .u (r.map en50))])))) := by
  refine CTd.of_tr Try.f26 Try.func26 (by kernel_rfl) ?_
  unfold F26_v2 at h0
  refine Tr.conv (Conv.normT (keep := [0]) (ρ := []) ⟨upd (deadT) 0 (.ag [vI .u32 x17466, vI .u32 x17467, .t (.fz .u (x17468.map en50))]), emptyS, 8, []⟩ (by kernel_rfl)) ?_
  refine Tr.seqN (by kernel_rfl) ?_
  refine Tr.regionN (by kernel_rfl) ?_
  refine TrAt.goS good 2 [(1, .pt 1 0), (2, .pt 2 0)] [(1, .bx 35 [vI .u32 x17466, vI .u32 x17467, .t (.fz .u (x17468.map en50))]), (2, .bx 35 [vI .u32 0, vI .u32 0, .t (.sc (.slice none 0 0))])] (by kernel_rfl) ?_
  refine TrAt.end_ (by kernel_rfl) ?_
  refine thenQ_n ?_
  refine Tr.seqN (by kernel_rfl) ?_
  refine Tr.regionN (by kernel_rfl) ?_
  refine TrAt.goS good 2 [(3, .pt 1 2), (4, .t (.fz .u (x17468.map en50)))] [] (by kernel_rfl) ?_
  obtain ⟨y17483, h17484, h0⟩ := bind_out h0
  refine TrAt.callD (caps := []) 5 (.sl .u 400100) [] [(500000, 400100)] (.func 30) #[.tmp 4] #[33] (ct_F30_v2 k x17468 y17483 h17484) Try.func30 (by kernel_rfl) (by kernel_rfl) (by kernel_rfl) (by kernel_rfl) (by kernel_rfl) (by kernel_rfl) (by kernel_rfl) (by kernel_rfl) (by kernel_rfl) (by kernel_rfl) (by kernel_rfl) (by kernel_rfl) (by kernel_rfl) (by kernel_rfl) (by kernel_rfl) ?_
  refine TrAt.goS good 2 [(6, .pt 1 2)] [(1, .bx 35 [vI .u32 x17466, vI .u32 x17467, .sl .u 400100])] (by kernel_rfl) ?_
  refine TrAt.end_ (by kernel_rfl) ?_
  refine thenQ_n ?_
  refine Tr.seqN (by kernel_rfl) ?_
  refine Tr.regionN (by kernel_rfl) ?_
  refine TrAt.goS good 2 [(7, .ag [vI .u32 x17466, vI .u32 x17467, .sl .u 400100])] [(2, .bx 35 [vI .u32 x17466, vI .u32 x17467, .sl .u 400100])] (by kernel_rfl) ?_
  refine TrAt.end_ (by kernel_rfl) ?_
  refine thenQ_n ?_
  refine Tr.conv (Conv.freezeP 400100 50 2 (y17483.map en50) (by kernel_rfl)) ?_
  refine Tr.conv (Conv.normT (keep := [2]) (ρ := [(2, 500000)]) ⟨upd (deadT) 2 (.pt 500000 0), upd (emptyS) 500000 (some (some (.bx 35 [vI .u32 x17466, vI .u32 x17467, .t (.fz .u (y17483.map en50))]))), 8, []⟩ (by kernel_rfl)) ?_
  refine Tr.retN (by kernel_rfl) ?_
  cases h0
  exact finQ_r (by kernel_rfl) (by kernel_rfl)
end Go.Proofs.Ytljbepjbecjpiaa.N

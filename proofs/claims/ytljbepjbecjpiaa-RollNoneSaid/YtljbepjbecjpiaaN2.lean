/- What the functions compute, natively, and that they do. Printed by a program (wip/gen). -/
import Derived.Test.YtljbepjbecjpiaaN1
namespace Go.Proofs.Ytljbepjbecjpiaa.N
open Go.RowKit Go.Proofs.Ytljbepjbecjpiaa.Mc Go.Proofs
set_option maxRecDepth 100000
set_option linter.unusedVariables false
def F14_v5_1 (k : Nat) (x17450 : Int) (x17451 : Int) (x17452 : (List E50)) (x17453 : Int) (y17495 : Bool) : Option (Int × Int × (List E35)) :=
  cond y17495 (some (1, x17453, [])) (cond (decide (x17450 ≤ x17453)) (some (7, x17453, [])) ((F26_v2 k x17450 x17451 x17452).bind fun y17498 =>
  grd (decide ((([] : List E35).length + ([(E35.mk x17450 x17451 y17498)]).length) * 32 ≤ 140737488355328)) <|
  some (0, x17450, (([] : List E35) ++ ([(E35.mk x17450 x17451 y17498)])))))
def F14_v5 (k : Nat) (x17450 : Int) (x17451 : Int) (x17452 : (List E50)) (x17453 : Int) : Option (Int × Int × (List E35)) :=
  cond (x17450 == 0) (F14_v5_1 k x17450 x17451 x17452 x17453 true) (F14_v5_1 k x17450 x17451 x17452 x17453 ((x17452.length : Int) == 0))
theorem ct_F14_v5 (k : Nat) (x17450 : Int) (x17451 : Int) (x17452 : (List E50)) (x17453 : Int) (r : (Int × Int × (List E35))) (h0 : F14_v5 k x17450 x17451 x17452 x17453 = some r) : CTd Try.prog 14 [.pt 1000000 0, .ag [vI .u32 x17450, vI .u32 x17451, .t (.fz .u (x17452.map en50))]] [(1000000, .bx 59 [.t (.sc (.slice none 0 0)), vI .u32 x17453])] (vI .i64 r.1) (upd (upd (emptyS) 500000 (some (some (.ar 35 3 (r.2.2.map en35))))) 1000000 (some (some (.bx 59 [.sl .n 500000, vI .u32 r.2.1])))) := by
  refine CTd.of_tr Try.f14 Try.func14 (by kernel_rfl) ?_
  unfold F14_v5 at h0
  refine Tr.conv (Conv.normT (keep := [0, 1]) (ρ := [(1000000, 1000000)]) ⟨upd (upd (deadT) 1 (.ag [vI .u32 x17450, vI .u32 x17451, .t (.fz .u (x17452.map en50))])) 0 (.pt 1000000 0), upd (emptyS) 1000000 (some (some (.bx 59 [.t (.sc (.slice none 0 0)), vI .u32 x17453]))), 43, [1000000]⟩ (by kernel_rfl)) ?_
  refine Tr.seqN (by kernel_rfl) ?_
  refine Tr.regionN (by kernel_rfl) ?_
  refine TrAt.goS good 2 [(3, .pt 3 0), (4, vI .i64 0)] [(3, .bx 35 [vI .u32 x17450, vI .u32 x17451, .t (.fz .u (x17452.map en50))])] (by kernel_rfl) ?_
  refine TrAt.end_ (by kernel_rfl) ?_
  refine thenQ_n ?_
  refine Tr.seqN (by kernel_rfl) ?_
  refine Tr.blockN (by kernel_rfl) ?_
  refine Tr.seqI (fun st => ∃ y17495, F14_v5_1 k x17450 x17451 x17452 x17453 y17495 = some r ∧ st = ⟨upd (upd (upd (deadT) 5 (vB y17495)) 3 (.pt 300000 0)) 0 (.pt 1000000 0), upd (upd (emptyS) 300000 (some (some (.bx 35 [vI .u32 x17450, vI .u32 x17451, .t (.fz .u (x17452.map en50))])))) 1000000 (some (some (.bx 59 [.t (.sc (.slice none 0 0)), vI .u32 x17453]))), 43, [1000000]⟩) (by kernel_rfl) ?_ ?_
  · refine Tr.regionN (by kernel_rfl) ?_
    refine TrAt.goS good 8 [(6, .pt 1000000 0), (7, vB false), (8, vB false), (9, .pt 3 0), (10, vI .u32 x17450), (11, vB (x17450 == 0)), (12, vB (x17450 == 0)), (13, vB (x17450 == 0))] [] (by kernel_rfl) ?_
    cases g17501 : ((x17450 == 0) : Bool) with
    | true =>
      have h0 := cond_t g17501 h0
      refine TrAt.goS good 6 [(14, .tp []), (15, .tp []), (16, .tp []), (17, .tp []), (18, vB true), (5, vB true)] [] (by kernel_rfl) ?_
      refine TrAt.conv (Conv.normT (keep := [0, 3, 5]) (ρ := [(1000000, 1000000), (3, 300000)]) ⟨upd (upd (upd (deadT) 5 (vB true)) 3 (.pt 300000 0)) 0 (.pt 1000000 0), upd (upd (emptyS) 300000 (some (some (.bx 35 [vI .u32 x17450, vI .u32 x17451, .t (.fz .u (x17452.map en50))])))) 1000000 (some (some (.bx 59 [.t (.sc (.slice none 0 0)), vI .u32 x17453]))), 43, [1000000]⟩ (by kernel_rfl)) ?_
      refine TrAt.end_ (by kernel_rfl) ?_
      refine thenI_n ?_
      exact ⟨true, h0, rfl⟩
    | false =>
      have h0 := cond_f g17501 h0
      refine TrAt.goS good 2 [(14, .pt 3 2), (15, .t (.fz .u (x17452.map en50)))] [] (by kernel_rfl) ?_
      refine TrAt.lawP 16 _ _ (by kernel_rfl) (by kernel_rfl) (by kernel_rfl) (by kernel_rfl) (lenFz_ok good (t := 33) (e := 50) (x := .tmp 15) (nl := .u) (enc := en50) (xs := x17452) (by kernel_rfl) (by kernel_rfl) (by kernel_rfl)) ?_
      refine TrAt.goS good 3 [(17, vB ((x17452.length : Int) == 0)), (18, vB ((x17452.length : Int) == 0)), (5, vB ((x17452.length : Int) == 0))] [] (by kernel_rfl) ?_
      refine TrAt.conv (Conv.normT (keep := [0, 3, 5]) (ρ := [(1000000, 1000000), (3, 300000)]) ⟨upd (upd (upd (deadT) 5 (vB ((x17452.length : Int) == 0))) 3 (.pt 300000 0)) 0 (.pt 1000000 0), upd (upd (emptyS) 300000 (some (some (.bx 35 [vI .u32 x17450, vI .u32 x17451, .t (.fz .u (x17452.map en50))])))) 1000000 (some (some (.bx 59 [.t (.sc (.slice none 0 0)), vI .u32 x17453]))), 43, [1000000]⟩ (by kernel_rfl)) ?_
      refine TrAt.end_ (by kernel_rfl) ?_
      refine thenI_n ?_
      exact ⟨((x17452.length : Int) == 0), h0, rfl⟩
  · rintro st ⟨y17495, h0, rfl⟩
    unfold F14_v5_1 at h0
    refine Tr.condN y17495 (by kernel_rfl) (by kernel_rfl) ?_ ?_
    · intro g17496
      have h0 := cond_t g17496 h0
      refine Tr.seqN (by kernel_rfl) ?_
      refine Tr.regionN (by kernel_rfl) ?_
      refine TrAt.goS good 1 [(4, vI .i64 1)] [] (by kernel_rfl) ?_
      refine TrAt.end_ (by kernel_rfl) ?_
      refine thenQ_n ?_
      refine Tr.conv (Conv.nilBox 1000000 59 [.t (.sc (.slice none 0 0)), vI .u32 x17453] 0 200104 35 3 (by kernel_rfl) (by kernel_rfl) (by kernel_rfl) (by kernel_rfl)) ?_
      refine Tr.conv (Conv.normT (keep := [4]) (ρ := [(1000000, 1000000), (200104, 500000)]) ⟨upd (deadT) 4 (vI .i64 1), upd (upd (emptyS) 500000 (some (some (.ar 35 3 (([]).map en35))))) 1000000 (some (some (.bx 59 [.sl .n 500000, vI .u32 x17453]))), 43, [1000000]⟩ (by kernel_rfl)) ?_
      refine Tr.retN (by kernel_rfl) ?_
      refine inBlockQ_r ?_
      refine thenQ_r ?_
      cases h0
      exact finQ_r (by kernel_rfl) (by kernel_rfl)
    · intro g17496
      have h0 := cond_f g17496 h0
      refine Tr.seqN (by kernel_rfl) ?_
      refine Tr.draws ⟨upd (upd (upd (deadT) 19 (vB (decide (x17450 ≤ x17453)))) 3 (.pt 300000 0)) 0 (.pt 1000000 0), upd (upd (emptyS) 300000 (some (some (.bx 35 [vI .u32 x17450, vI .u32 x17451, .t (.fz .u (x17452.map en50))])))) 1000000 (some (some (.bx 59 [.t (.sc (.slice none 0 0)), vI .u32 x17453]))), 43, [1000000]⟩ [.pt 300000 0, vI .u32 x17450, .pt 1000000 0, .pt 1000000 0, .pt 1000000 1, vI .u32 x17453, vB (decide (x17450 ≤ x17453)), vB (decide (x17450 ≤ x17453))] [] [] [(0, 0), (1, 0), (2, 0), (3, 0), (4, 0), (5, 0), (6, 0), (7, 0)] (by kernel_rfl) (by kernel_rfl) (by kernel_rfl) ⟨OpLaw.step good (by kernel_rfl), OpLaw.step good (by kernel_rfl), OpLaw.step good (by kernel_rfl), OpLaw.step good (by kernel_rfl), OpLaw.step good (by kernel_rfl), OpLaw.step good (by kernel_rfl), OpLaw.step good (by kernel_rfl), OpLaw.step good (by kernel_rfl), trivial⟩ (Conv.normT (keep := [0, 3, 19]) (ρ := [(1000000, 1000000), (300000, 300000)]) ⟨upd (upd (upd (deadT) 19 (vB (decide (x17450 ≤ x17453)))) 3 (.pt 300000 0)) 0 (.pt 1000000 0), upd (upd (emptyS) 300000 (some (some (.bx 35 [vI .u32 x17450, vI .u32 x17451, .t (.fz .u (x17452.map en50))])))) 1000000 (some (some (.bx 59 [.t (.sc (.slice none 0 0)), vI .u32 x17453]))), 43, [1000000]⟩ (by kernel_rfl)) ?_
      refine thenQ_n ?_
      refine Tr.condN (decide (x17450 ≤ x17453)) (by kernel_rfl) (by kernel_rfl) ?_ ?_
      · intro g17497
        have h0 := cond_t g17497 h0
        refine Tr.seqN (by kernel_rfl) ?_
        refine Tr.regionN (by kernel_rfl) ?_
        refine TrAt.goS good 1 [(4, vI .i64 7)] [] (by kernel_rfl) ?_
        refine TrAt.end_ (by kernel_rfl) ?_
        refine thenQ_n ?_
        refine Tr.conv (Conv.nilBox 1000000 59 [.t (.sc (.slice none 0 0)), vI .u32 x17453] 0 200105 35 3 (by kernel_rfl) (by kernel_rfl) (by kernel_rfl) (by kernel_rfl)) ?_
        refine Tr.conv (Conv.normT (keep := [4]) (ρ := [(1000000, 1000000), (200105, 500000)]) ⟨upd (deadT) 4 (vI .i64 7), upd (upd (emptyS) 500000 (some (some (.ar 35 3 (([]).map en35))))) 1000000 (some (some (.bx 59 [.sl .n 500000, vI .u32 x17453]))), 43, [1000000]⟩ (by kernel_rfl)) ?_
        refine Tr.retN (by kernel_rfl) ?_
        refine inBlockQ_r ?_
        refine thenQ_r ?_
        cases h0
        exact finQ_r (by kernel_rfl) (by kernel_rfl)
      · intro g17497
        have h0 := cond_f g17497 h0
        refine Tr.skipN (by kernel_rfl) ?_
        refine inBlockQ_n ?_
        refine thenQ_n ?_
        refine Tr.seqN (by kernel_rfl) ?_
        obtain ⟨y17498, h17499, h0⟩ := bind_out h0
        obtain ⟨g17500, h0⟩ := grd_out h0
        refine Tr.draws ⟨deadT, upd (upd (emptyS) 300000 (some (some (.ar 35 3 ((([] : List E35) ++ ([(E35.mk x17450 x17451 y17498)])).map en35))))) 1000000 (some (some (.bx 59 [.sl .n 300000, vI .u32 x17450]))), 43, [1000000]⟩ [.pt 1000000 0, .pt 1000000 0, .pt 1000000 0, .pt 1000000 0, .pt 1000000 0, .t (.sc (.slice none 0 0)), .ag [vI .u32 x17450, vI .u32 x17451, .t (.fz .u (x17452.map en50))], .ag [vI .u32 x17450, vI .u32 x17451, .t (.fz .u (y17498.map en50))], .sl .e 35, .sl .n 36, .pt 300000 0, vI .u32 x17450, .pt 1000000 0, .pt 1000000 0, .tp [], .pt 1000000 0, .pt 1000000 1, .tp []] [fun s => backS [(500000, 400680)] (upd (emptyS) 500000 (some (some (.bx 35 [vI .u32 x17450, vI .u32 x17451, .t (.fz .u (y17498.map en50))])))) s, fun s => upd s 35 (some (some (.ar 35 3 (([(E35.mk x17450 x17451 y17498)]).map en35)))), fun s => upd (killS s none) 36 (some (some (.ar 35 3 ((([] : List E35) ++ ([(E35.mk x17450 x17451 y17498)])).map en35)))), fun s => upd s 1000000 (some (some (.bx 59 [.sl .n 36, vI .u32 x17453]))), fun s => upd s 1000000 (some (some (.bx 59 [.sl .n 36, vI .u32 x17450])))] [7, 8, 9, 14, 17] [(0, 0), (0, 1), (0, 2), (0, 3), (1, 0), (1, 1), (1, 2), (1, 3), (1, 4), (2, 0), (2, 1), (2, 2), (2, 3), (3, 0), (3, 1), (3, 2), (3, 3), (4, 0), (4, 1), (4, 2), (4, 3), (5, 0), (5, 1), (5, 2), (6, 0), (7, 0), (8, 1), (9, 2), (10, 0), (10, 1), (10, 2), (10, 3), (10, 4), (11, 0), (11, 1), (11, 2), (11, 3), (11, 4), (12, 3), (12, 4), (13, 3), (14, 3), (15, 4), (15, 5), (16, 4), (17, 4)] (by kernel_rfl) (by kernel_rfl) (by kernel_rfl) ⟨OpLaw.step good (by kernel_rfl), OpLaw.step good (by kernel_rfl), OpLaw.step good (by kernel_rfl), OpLaw.step good (by kernel_rfl), OpLaw.step good (by kernel_rfl), OpLaw.step good (by kernel_rfl), OpLaw.step good (by kernel_rfl), OpLaw.step good (by kernel_rfl), OpLaw.step good (by kernel_rfl), OpLaw.step good (by kernel_rfl), OpLaw.step good (by kernel_rfl), OpLaw.step good (by kernel_rfl), OpLaw.step good (by kernel_rfl), OpLaw.step good (by kernel_rfl), OpLaw.step good (by kernel_rfl), OpLaw.step good (by kernel_rfl), OpLaw.step good (by kernel_rfl), OpLaw.step good (by kernel_rfl), OpLaw.step good (by kernel_rfl), OpLaw.step good (by kernel_rfl), OpLaw.step good (by kernel_rfl), OpLaw.step good (by kernel_rfl), OpLaw.step good (by kernel_rfl), OpLaw.step good (by kernel_rfl), OpLaw.step good (by kernel_rfl), OpLaw.callD (caps := []) [] [(500000, 400680)] (.func 26) #[.tmp 33] #[35] (ct_F26_v2 k x17450 x17451 x17452 y17498 h17499) Try.func26 (by kernel_rfl) (by kernel_rfl) (by kernel_rfl) (by kernel_rfl) (by kernel_rfl) (by kernel_rfl) (by kernel_rfl) (by kernel_rfl) (by kernel_rfl) (by kernel_rfl) (by kernel_rfl) (by kernel_rfl) (by kernel_rfl), OpLaw.ok (v' := .sl .e 35) (by kernel_rfl) (by kernel_rfl) (by kernel_rfl) (bsP_ok good (t := 44) (e := 35) (d := 35) (len := 1) (parts := #[(0, .tmp 34)]) (rows := ([(E35.mk x17450 x17451 y17498)]).map en35) (by kernel_rfl) (by kernel_rfl) (by kernel_rfl) (by kernel_rfl) (by kernel_rfl) (by kernel_rfl)), OpLaw.ok (v' := .sl .n 36) (by kernel_rfl) (by kernel_rfl) (by kernel_rfl) (apP_ok good (x := .tmp 32) (y := .tmp 35) (t := 44) (e := 35) (d := 36) (nl := .n) (enc := en35) (xs := ([] : List E35)) (ys := [(E35.mk x17450 x17451 y17498)]) (oo := none) (bz := 32) (by kernel_rfl) (by kernel_rfl) (by kernel_rfl) (by kernel_rfl) (by kernel_rfl) (by kernel_rfl) wide35 (by kernel_rfl) g17500), OpLaw.step good (by kernel_rfl), OpLaw.step good (by kernel_rfl), OpLaw.step good (by kernel_rfl), OpLaw.step good (by kernel_rfl), OpLaw.step good (by kernel_rfl), OpLaw.step good (by kernel_rfl), OpLaw.step good (by kernel_rfl), OpLaw.step good (by kernel_rfl), OpLaw.step good (by kernel_rfl), OpLaw.step good (by kernel_rfl), OpLaw.step good (by kernel_rfl), OpLaw.step good (by kernel_rfl), OpLaw.step good (by kernel_rfl), OpLaw.step good (by kernel_rfl), OpLaw.step good (by kernel_rfl), OpLaw.step good (by kernel_rfl), OpLaw.step good (by kernel_rfl), OpLaw.step good (by kernel_rfl), trivial⟩ (Conv.normT (keep := []) (ρ := [(1000000, 1000000), (36, 300000)]) ⟨deadT, upd (upd (emptyS) 300000 (some (some (.ar 35 3 ((([] : List E35) ++ ([(E35.mk x17450 x17451 y17498)])).map en35))))) 1000000 (some (some (.bx 59 [.sl .n 300000, vI .u32 x17450]))), 43, [1000000]⟩ (by kernel_rfl)) ?_
        refine thenQ_n ?_
        refine Tr.seqN (by kernel_rfl) ?_
        refine Tr.regionN (by kernel_rfl) ?_
        refine TrAt.goS good 1 [(4, vI .i64 0)] [] (by kernel_rfl) ?_
        refine TrAt.end_ (by kernel_rfl) ?_
        refine thenQ_n ?_
        refine Tr.conv (Conv.normT (keep := [4]) (ρ := [(1000000, 1000000), (300000, 500000)]) ⟨upd (deadT) 4 (vI .i64 0), upd (upd (emptyS) 500000 (some (some (.ar 35 3 ((([] : List E35) ++ ([(E35.mk x17450 x17451 y17498)])).map en35))))) 1000000 (some (some (.bx 59 [.sl .n 500000, vI .u32 x17450]))), 43, [1000000]⟩ (by kernel_rfl)) ?_
        refine Tr.retN (by kernel_rfl) ?_
        cases h0
        exact finQ_r (by kernel_rfl) (by kernel_rfl)
def F14_v6_1 (k : Nat)  : Option Unit :=
  some ()
def F14_v6 (k : Nat) (x17506 : Int) (x17507 : Int) (x17508 : Int) (x17509 : (List E35)) : Option Unit :=
  cond (x17506 == 0) (F14_v6_1 k ) (F14_v6_1 k )
theorem ct_F14_v6 (k : Nat) (x17506 : Int) (x17507 : Int) (x17508 : Int) (x17509 : (List E35)) (r : Unit) (h0 : F14_v6 k x17506 x17507 x17508 x17509 = some r) : CTd Try.prog 14 [.pt 1000000 0, .ag [vI .u32 x17506, vI .u32 x17507, .t (.sc (.slice none 0 0))]] [(1000000, .bx 59 [.sl .n 1000001, vI .u32 x17508]), (1000001, .ar 35 3 (x17509.map en35))] (vI .i64 1) (upd (upd (emptyS) 1000001 (some (some (.ar 35 3 (x17509.map en35))))) 1000000 (some (some (.bx 59 [.sl .n 1000001, vI .u32 x17508])))) := by
  refine CTd.of_tr Try.f14 Try.func14 (by kernel_rfl) ?_
  unfold F14_v6 at h0
  refine Tr.conv (Conv.normT (keep := [0, 1]) (ρ := [(1000000, 1000000), (1000001, 1000001)]) ⟨upd (upd (deadT) 1 (.ag [vI .u32 x17506, vI .u32 x17507, .t (.sc (.slice none 0 0))])) 0 (.pt 1000000 0), upd (upd (emptyS) 1000001 (some (some (.ar 35 3 (x17509.map en35))))) 1000000 (some (some (.bx 59 [.sl .n 1000001, vI .u32 x17508]))), 43, [1000000, 1000001]⟩ (by kernel_rfl)) ?_
  refine Tr.seqN (by kernel_rfl) ?_
  refine Tr.regionN (by kernel_rfl) ?_
  refine TrAt.goS good 2 [(3, .pt 3 0), (4, vI .i64 0)] [(3, .bx 35 [vI .u32 x17506, vI .u32 x17507, .t (.sc (.slice none 0 0))])] (by kernel_rfl) ?_
  refine TrAt.end_ (by kernel_rfl) ?_
  refine thenQ_n ?_
  refine Tr.seqN (by kernel_rfl) ?_
  refine Tr.blockN (by kernel_rfl) ?_
  refine Tr.seqI (fun st => F14_v6_1 k  = some r ∧ st = ⟨upd (upd (upd (deadT) 5 (vB true)) 3 (.pt 300000 0)) 0 (.pt 1000000 0), upd (upd (upd (emptyS) 300000 (some (some (.bx 35 [vI .u32 x17506, vI .u32 x17507, .t (.sc (.slice none 0 0))])))) 1000001 (some (some (.ar 35 3 (x17509.map en35))))) 1000000 (some (some (.bx 59 [.sl .n 1000001, vI .u32 x17508]))), 43, [1000000, 1000001]⟩) (by kernel_rfl) ?_ ?_
  · refine Tr.regionN (by kernel_rfl) ?_
    refine TrAt.goS good 8 [(6, .pt 1000000 0), (7, vB false), (8, vB false), (9, .pt 3 0), (10, vI .u32 x17506), (11, vB (x17506 == 0)), (12, vB (x17506 == 0)), (13, vB (x17506 == 0))] [] (by kernel_rfl) ?_
    cases g17514 : ((x17506 == 0) : Bool) with
    | true =>
      have h0 := cond_t g17514 h0
      refine TrAt.goS good 6 [(14, .tp []), (15, .tp []), (16, .tp []), (17, .tp []), (18, vB true), (5, vB true)] [] (by kernel_rfl) ?_
      refine TrAt.conv (Conv.normT (keep := [0, 3, 5]) (ρ := [(1000000, 1000000), (1000001, 1000001), (3, 300000)]) ⟨upd (upd (upd (deadT) 5 (vB true)) 3 (.pt 300000 0)) 0 (.pt 1000000 0), upd (upd (upd (emptyS) 300000 (some (some (.bx 35 [vI .u32 x17506, vI .u32 x17507, .t (.sc (.slice none 0 0))])))) 1000001 (some (some (.ar 35 3 (x17509.map en35))))) 1000000 (some (some (.bx 59 [.sl .n 1000001, vI .u32 x17508]))), 43, [1000000, 1000001]⟩ (by kernel_rfl)) ?_
      refine TrAt.end_ (by kernel_rfl) ?_
      refine thenI_n ?_
      exact ⟨h0, rfl⟩
    | false =>
      have h0 := cond_f g17514 h0
      refine TrAt.goS good 6 [(14, .pt 3 2), (15, .t (.sc (.slice none 0 0))), (16, vI .i64 0), (17, vB true), (18, vB true), (5, vB true)] [] (by kernel_rfl) ?_
      refine TrAt.conv (Conv.normT (keep := [0, 3, 5]) (ρ := [(1000000, 1000000), (1000001, 1000001), (3, 300000)]) ⟨upd (upd (upd (deadT) 5 (vB true)) 3 (.pt 300000 0)) 0 (.pt 1000000 0), upd (upd (upd (emptyS) 300000 (some (some (.bx 35 [vI .u32 x17506, vI .u32 x17507, .t (.sc (.slice none 0 0))])))) 1000001 (some (some (.ar 35 3 (x17509.map en35))))) 1000000 (some (some (.bx 59 [.sl .n 1000001, vI .u32 x17508]))), 43, [1000000, 1000001]⟩ (by kernel_rfl)) ?_
      refine TrAt.end_ (by kernel_rfl) ?_
      refine thenI_n ?_
      exact ⟨h0, rfl⟩
  · rintro st ⟨h0, rfl⟩
    unfold F14_v6_1 at h0
    refine Tr.condT (by kernel_rfl) (by kernel_rfl) ?_
    refine Tr.seqN (by kernel_rfl) ?_
    refine Tr.regionN (by kernel_rfl) ?_
    refine TrAt.goS good 1 [(4, vI .i64 1)] [] (by kernel_rfl) ?_
    refine TrAt.end_ (by kernel_rfl) ?_
    refine thenQ_n ?_
    refine Tr.conv (Conv.normT (keep := [4]) (ρ := [(1000000, 1000000), (1000001, 1000001)]) ⟨upd (deadT) 4 (vI .i64 1), upd (upd (emptyS) 1000001 (some (some (.ar 35 3 (x17509.map en35))))) 1000000 (some (some (.bx 59 [.sl .n 1000001, vI .u32 x17508]))), 43, [1000000, 1000001]⟩ (by kernel_rfl)) ?_
    refine Tr.retN (by kernel_rfl) ?_
    refine inBlockQ_r ?_
    refine thenQ_r ?_
    cases h0
    exact finQ_r (by kernel_rfl) (by kernel_rfl)
def F14_v7_1 (k : Nat) (x17519 : Int) (x17520 : Int) (x17521 : (List E50)) (x17522 : Int) (x17523 : (List E35)) (y17546 : Bool) : Option (Int × Int × (List E35)) :=
  cond y17546 (some (1, x17522, x17523)) (cond (decide (x17519 ≤ x17522)) (some (7, x17522, x17523)) ((F26_v2 k x17519 x17520 x17521).bind fun y17549 =>
  grd (decide ((x17523.length + ([(E35.mk x17519 x17520 y17549)]).length) * 32 ≤ 140737488355328)) <|
  some (0, x17519, (x17523 ++ ([(E35.mk x17519 x17520 y17549)])))))
def F14_v7 (k : Nat) (x17519 : Int) (x17520 : Int) (x17521 : (List E50)) (x17522 : Int) (x17523 : (List E35)) : Option (Int × Int × (List E35)) :=
  cond (x17519 == 0) (F14_v7_1 k x17519 x17520 x17521 x17522 x17523 true) (F14_v7_1 k x17519 x17520 x17521 x17522 x17523 ((x17521.length : Int) == 0))
theorem ct_F14_v7 (k : Nat) (x17519 : Int) (x17520 : Int) (x17521 : (List E50)) (x17522 : Int) (x17523 : (List E35)) (r : (Int × Int × (List E35))) (h0 : F14_v7 k x17519 x17520 x17521 x17522 x17523 = some r) : CTd Try.prog 14 [.pt 1000000 0, .ag [vI .u32 x17519, vI .u32 x17520, .t (.fz .u (x17521.map en50))]] [(1000000, .bx 59 [.sl .n 1000001, vI .u32 x17522]), (1000001, .ar 35 3 (x17523.map en35))] (vI .i64 r.1) (upd (upd (upd (emptyS) 500000 (some (some (.ar 35 3 (r.2.2.map en35))))) 1000001 (some none)) 1000000 (some (some (.bx 59 [.sl .n 500000, vI .u32 r.2.1])))) := by
  refine CTd.of_tr Try.f14 Try.func14 (by kernel_rfl) ?_
  unfold F14_v7 at h0
  refine Tr.conv (Conv.normT (keep := [0, 1]) (ρ := [(1000000, 1000000), (1000001, 1000001)]) ⟨upd (upd (deadT) 1 (.ag [vI .u32 x17519, vI .u32 x17520, .t (.fz .u (x17521.map en50))])) 0 (.pt 1000000 0), upd (upd (emptyS) 1000001 (some (some (.ar 35 3 (x17523.map en35))))) 1000000 (some (some (.bx 59 [.sl .n 1000001, vI .u32 x17522]))), 43, [1000000, 1000001]⟩ (by kernel_rfl)) ?_
  refine Tr.seqN (by kernel_rfl) ?_
  refine Tr.regionN (by kernel_rfl) ?_
  refine TrAt.goS good 2 [(3, .pt 3 0), (4, vI .i64 0)] [(3, .bx 35 [vI .u32 x17519, vI .u32 x17520, .t (.fz .u (x17521.map en50))])] (by kernel_rfl) ?_
  refine TrAt.end_ (by kernel_rfl) ?_
  refine thenQ_n ?_
  refine Tr.seqN (by kernel_rfl) ?_
  refine Tr.blockN (by kernel_rfl) ?_
  refine Tr.seqI (fun st => ∃ y17546, F14_v7_1 k x17519 x17520 x17521 x17522 x17523 y17546 = some r ∧ st = ⟨upd (upd (upd (deadT) 5 (vB y17546)) 3 (.pt 300000 0)) 0 (.pt 1000000 0), upd (upd (upd (emptyS) 300000 (some (some (.bx 35 [vI .u32 x17519, vI .u32 x17520, .t (.fz .u (x17521.map en50))])))) 1000001 (some (some (.ar 35 3 (x17523.map en35))))) 1000000 (some (some (.bx 59 [.sl .n 1000001, vI .u32 x17522]))), 43, [1000000, 1000001]⟩) (by kernel_rfl) ?_ ?_
  · refine Tr.regionN (by kernel_rfl) ?_
    refine TrAt.goS good 8 [(6, .pt 1000000 0), (7, vB false), (8, vB false), (9, .pt 3 0), (10, vI .u32 x17519), (11, vB (x17519 == 0)), (12, vB (x17519 == 0)), (13, vB (x17519 == 0))] [] (by kernel_rfl) ?_
    cases g17552 : ((x17519 == 0) : Bool) with
    | true =>
      have h0 := cond_t g17552 h0
      refine TrAt.goS good 6 [(14, .tp []), (15, .tp []), (16, .tp []), (17, .tp []), (18, vB true), (5, vB true)] [] (by kernel_rfl) ?_
      refine TrAt.conv (Conv.normT (keep := [0, 3, 5]) (ρ := [(1000000, 1000000), (1000001, 1000001), (3, 300000)]) ⟨upd (upd (upd (deadT) 5 (vB true)) 3 (.pt 300000 0)) 0 (.pt 1000000 0), upd (upd (upd (emptyS) 300000 (some (some (.bx 35 [vI .u32 x17519, vI .u32 x17520, .t (.fz .u (x17521.map en50))])))) 1000001 (some (some (.ar 35 3 (x17523.map en35))))) 1000000 (some (some (.bx 59 [.sl .n 1000001, vI .u32 x17522]))), 43, [1000000, 1000001]⟩ (by kernel_rfl)) ?_
      refine TrAt.end_ (by kernel_rfl) ?_
      refine thenI_n ?_
      exact ⟨true, h0, rfl⟩
    | false =>
      have h0 := cond_f g17552 h0
      refine TrAt.goS good 2 [(14, .pt 3 2), (15, .t (.fz .u (x17521.map en50)))] [] (by kernel_rfl) ?_
      refine TrAt.lawP 16 _ _ (by kernel_rfl) (by kernel_rfl) (by kernel_rfl) (by kernel_rfl) (lenFz_ok good (t := 33) (e := 50) (x := .tmp 15) (nl := .u) (enc := en50) (xs := x17521) (by kernel_rfl) (by kernel_rfl) (by kernel_rfl)) ?_
      refine TrAt.goS good 3 [(17, vB ((x17521.length : Int) == 0)), (18, vB ((x17521.length : Int) == 0)), (5, vB ((x17521.length : Int) == 0))] [] (by kernel_rfl) ?_
      refine TrAt.conv (Conv.normT (keep := [0, 3, 5]) (ρ := [(1000000, 1000000), (1000001, 1000001), (3, 300000)]) ⟨upd (upd (upd (deadT) 5 (vB ((x17521.length : Int) == 0))) 3 (.pt 300000 0)) 0 (.pt 1000000 0), upd (upd (upd (emptyS) 300000 (some (some (.bx 35 [vI .u32 x17519, vI .u32 x17520, .t (.fz .u (x17521.map en50))])))) 1000001 (some (some (.ar 35 3 (x17523.map en35))))) 1000000 (some (some (.bx 59 [.sl .n 1000001, vI .u32 x17522]))), 43, [1000000, 1000001]⟩ (by kernel_rfl)) ?_
      refine TrAt.end_ (by kernel_rfl) ?_
      refine thenI_n ?_
      exact ⟨((x17521.length : Int) == 0), h0, rfl⟩
  · rintro st ⟨y17546, h0, rfl⟩
    unfold F14_v7_1 at h0
    refine Tr.condN y17546 (by kernel_rfl) (by kernel_rfl) ?_ ?_
    · intro g17547
      have h0 := cond_t g17547 h0
      refine Tr.seqN (by kernel_rfl) ?_
      refine Tr.regionN (by kernel_rfl) ?_
      refine TrAt.goS good 1 [(4, vI .i64 1)] [] (by kernel_rfl) ?_
      refine TrAt.end_ (by kernel_rfl) ?_
      refine thenQ_n ?_
      refine Tr.conv (Conv.move 1000001 200106 (by kernel_rfl) (by kernel_rfl)) ?_
      refine Tr.conv (Conv.normT (keep := [4]) (ρ := [(1000000, 1000000), (1000001, 1000001), (200106, 500000)]) ⟨upd (deadT) 4 (vI .i64 1), upd (upd (upd (emptyS) 500000 (some (some (.ar 35 3 (x17523.map en35))))) 1000001 (some none)) 1000000 (some (some (.bx 59 [.sl .n 500000, vI .u32 x17522]))), 43, [1000000, 1000001]⟩ (by kernel_rfl)) ?_
      refine Tr.retN (by kernel_rfl) ?_
      refine inBlockQ_r ?_
      refine thenQ_r ?_
      cases h0
      exact finQ_r (by kernel_rfl) (by kernel_rfl)
    · intro g17547
      have h0 := cond_f g17547 h0
      refine Tr.seqN (by kernel_rfl) ?_
      refine Tr.draws ⟨upd (upd (upd (deadT) 19 (vB (decide (x17519 ≤ x17522)))) 3 (.pt 300000 0)) 0 (.pt 1000000 0), upd (upd (upd (emptyS) 300000 (some (some (.bx 35 [vI .u32 x17519, vI .u32 x17520, .t (.fz .u (x17521.map en50))])))) 1000001 (some (some (.ar 35 3 (x17523.map en35))))) 1000000 (some (some (.bx 59 [.sl .n 1000001, vI .u32 x17522]))), 43, [1000000, 1000001]⟩ [.pt 300000 0, vI .u32 x17519, .pt 1000000 0, .pt 1000000 0, .pt 1000000 1, vI .u32 x17522, vB (decide (x17519 ≤ x17522)), vB (decide (x17519 ≤ x17522))] [] [] [(0, 0), (1, 0), (2, 0), (3, 0), (4, 0), (5, 0), (6, 0), (7, 0)] (by kernel_rfl) (by kernel_rfl) (by kernel_rfl) ⟨OpLaw.step good (by kernel_rfl), OpLaw.step good (by kernel_rfl), OpLaw.step good (by kernel_rfl), OpLaw.step good (by kernel_rfl), OpLaw.step good (by kernel_rfl), OpLaw.step good (by kernel_rfl), OpLaw.step good (by kernel_rfl), OpLaw.step good (by kernel_rfl), trivial⟩ (Conv.normT (keep := [0, 3, 19]) (ρ := [(1000000, 1000000), (1000001, 1000001), (300000, 300000)]) ⟨upd (upd (upd (deadT) 19 (vB (decide (x17519 ≤ x17522)))) 3 (.pt 300000 0)) 0 (.pt 1000000 0), upd (upd (upd (emptyS) 300000 (some (some (.bx 35 [vI .u32 x17519, vI .u32 x17520, .t (.fz .u (x17521.map en50))])))) 1000001 (some (some (.ar 35 3 (x17523.map en35))))) 1000000 (some (some (.bx 59 [.sl .n 1000001, vI .u32 x17522]))), 43, [1000000, 1000001]⟩ (by kernel_rfl)) ?_
      refine thenQ_n ?_
      refine Tr.condN (decide (x17519 ≤ x17522)) (by kernel_rfl) (by kernel_rfl) ?_ ?_
      · intro g17548
        have h0 := cond_t g17548 h0
        refine Tr.seqN (by kernel_rfl) ?_
        refine Tr.regionN (by kernel_rfl) ?_
        refine TrAt.goS good 1 [(4, vI .i64 7)] [] (by kernel_rfl) ?_
        refine TrAt.end_ (by kernel_rfl) ?_
        refine thenQ_n ?_
        refine Tr.conv (Conv.move 1000001 200107 (by kernel_rfl) (by kernel_rfl)) ?_
        refine Tr.conv (Conv.normT (keep := [4]) (ρ := [(1000000, 1000000), (1000001, 1000001), (200107, 500000)]) ⟨upd (deadT) 4 (vI .i64 7), upd (upd (upd (emptyS) 500000 (some (some (.ar 35 3 (x17523.map en35))))) 1000001 (some none)) 1000000 (some (some (.bx 59 [.sl .n 500000, vI .u32 x17522]))), 43, [1000000, 1000001]⟩ (by kernel_rfl)) ?_
        refine Tr.retN (by kernel_rfl) ?_
        refine inBlockQ_r ?_
        refine thenQ_r ?_
        cases h0
        exact finQ_r (by kernel_rfl) (by kernel_rfl)
      · intro g17548
        have h0 := cond_f g17548 h0
        refine Tr.skipN (by kernel_rfl) ?_
        refine inBlockQ_n ?_
        refine thenQ_n ?_
        refine Tr.seqN (by kernel_rfl) ?_
        obtain ⟨y17549, h17550, h0⟩ := bind_out h0
        obtain ⟨g17551, h0⟩ := grd_out h0
        refine Tr.draws ⟨deadT, upd (upd (upd (emptyS) 300000 (some (some (.ar 35 3 ((x17523 ++ ([(E35.mk x17519 x17520 y17549)])).map en35))))) 1000001 (some none)) 1000000 (some (some (.bx 59 [.sl .n 300000, vI .u32 x17519]))), 43, [1000000, 1000001]⟩ [.pt 1000000 0, .pt 1000000 0, .pt 1000000 0, .pt 1000000 0, .pt 1000000 0, .sl .n 1000001, .ag [vI .u32 x17519, vI .u32 x17520, .t (.fz .u (x17521.map en50))], .ag [vI .u32 x17519, vI .u32 x17520, .t (.fz .u (y17549.map en50))], .sl .e 35, .sl .n 36, .pt 300000 0, vI .u32 x17519, .pt 1000000 0, .pt 1000000 0, .tp [], .pt 1000000 0, .pt 1000000 1, .tp []] [fun s => backS [(500000, 400680)] (upd (emptyS) 500000 (some (some (.bx 35 [vI .u32 x17519, vI .u32 x17520, .t (.fz .u (y17549.map en50))])))) s, fun s => upd s 35 (some (some (.ar 35 3 (([(E35.mk x17519 x17520 y17549)]).map en35)))), fun s => upd (killS s (some 1000001)) 36 (some (some (.ar 35 3 ((x17523 ++ ([(E35.mk x17519 x17520 y17549)])).map en35)))), fun s => upd s 1000000 (some (some (.bx 59 [.sl .n 36, vI .u32 x17522]))), fun s => upd s 1000000 (some (some (.bx 59 [.sl .n 36, vI .u32 x17519])))] [7, 8, 9, 14, 17] [(0, 0), (0, 1), (0, 2), (0, 3), (1, 0), (1, 1), (1, 2), (1, 3), (1, 4), (2, 0), (2, 1), (2, 2), (2, 3), (3, 0), (3, 1), (3, 2), (3, 3), (4, 0), (4, 1), (4, 2), (4, 3), (5, 0), (5, 1), (5, 2), (6, 0), (7, 0), (8, 1), (9, 2), (10, 0), (10, 1), (10, 2), (10, 3), (10, 4), (11, 0), (11, 1), (11, 2), (11, 3), (11, 4), (12, 3), (12, 4), (13, 3), (14, 3), (15, 4), (15, 5), (16, 4), (17, 4)] (by kernel_rfl) (by kernel_rfl) (by kernel_rfl) ⟨OpLaw.step good (by kernel_rfl), OpLaw.step good (by kernel_rfl), OpLaw.step good (by kernel_rfl), OpLaw.step good (by kernel_rfl), OpLaw.step good (by kernel_rfl), OpLaw.step good (by kernel_rfl), OpLaw.step good (by kernel_rfl), OpLaw.step good (by kernel_rfl), OpLaw.step good (by kernel_rfl), OpLaw.step good (by kernel_rfl), OpLaw.step good (by kernel_rfl), OpLaw.step good (by kernel_rfl), OpLaw.step good (by kernel_rfl), OpLaw.step good (by kernel_rfl), OpLaw.step good (by kernel_rfl), OpLaw.step good (by kernel_rfl), OpLaw.step good (by kernel_rfl), OpLaw.step good (by kernel_rfl), OpLaw.step good (by kernel_rfl), OpLaw.step good (by kernel_rfl), OpLaw.step good (by kernel_rfl), OpLaw.step good (by kernel_rfl), OpLaw.step good (by kernel_rfl), OpLaw.step good (by kernel_rfl), OpLaw.step good (by kernel_rfl), OpLaw.callD (caps := []) [] [(500000, 400680)] (.func 26) #[.tmp 33] #[35] (ct_F26_v2 k x17519 x17520 x17521 y17549 h17550) Try.func26 (by kernel_rfl) (by kernel_rfl) (by kernel_rfl) (by kernel_rfl) (by kernel_rfl) (by kernel_rfl) (by kernel_rfl) (by kernel_rfl) (by kernel_rfl) (by kernel_rfl) (by kernel_rfl) (by kernel_rfl) (by kernel_rfl), OpLaw.ok (v' := .sl .e 35) (by kernel_rfl) (by kernel_rfl) (by kernel_rfl) (bsP_ok good (t := 44) (e := 35) (d := 35) (len := 1) (parts := #[(0, .tmp 34)]) (rows := ([(E35.mk x17519 x17520 y17549)]).map en35) (by kernel_rfl) (by kernel_rfl) (by kernel_rfl) (by kernel_rfl) (by kernel_rfl) (by kernel_rfl)), OpLaw.ok (v' := .sl .n 36) (by kernel_rfl) (by kernel_rfl) (by kernel_rfl) (apP_ok good (x := .tmp 32) (y := .tmp 35) (t := 44) (e := 35) (d := 36) (nl := .n) (enc := en35) (xs := x17523) (ys := [(E35.mk x17519 x17520 y17549)]) (oo := (some 1000001)) (bz := 32) (by kernel_rfl) (by kernel_rfl) (by kernel_rfl) (by kernel_rfl) (by kernel_rfl) (by kernel_rfl) wide35 (by kernel_rfl) g17551), OpLaw.step good (by kernel_rfl), OpLaw.step good (by kernel_rfl), OpLaw.step good (by kernel_rfl), OpLaw.step good (by kernel_rfl), OpLaw.step good (by kernel_rfl), OpLaw.step good (by kernel_rfl), OpLaw.step good (by kernel_rfl), OpLaw.step good (by kernel_rfl), OpLaw.step good (by kernel_rfl), OpLaw.step good (by kernel_rfl), OpLaw.step good (by kernel_rfl), OpLaw.step good (by kernel_rfl), OpLaw.step good (by kernel_rfl), OpLaw.step good (by kernel_rfl), OpLaw.step good (by kernel_rfl), OpLaw.step good (by kernel_rfl), OpLaw.step good (by kernel_rfl), OpLaw.step good (by kernel_rfl), trivial⟩ (Conv.normT (keep := []) (ρ := [(1000000, 1000000), (1000001, 1000001), (36, 300000)]) ⟨deadT, upd (upd (upd (emptyS) 300000 (some (some (.ar 35 3 ((x17523 ++ ([(E35.mk x17519 x17520 y17549)])).map en35))))) 1000001 (some none)) 1000000 (some (some (.bx 59 [.sl .n 300000, vI .u32 x17519]))), 43, [1000000, 1000001]⟩ (by kernel_rfl)) ?_
        refine thenQ_n ?_
        refine Tr.seqN (by kernel_rfl) ?_
        refine Tr.regionN (by kernel_rfl) ?_
        refine TrAt.goS good 1 [(4, vI .i64 0)] [] (by kernel_rfl) ?_
        refine TrAt.end_ (by kernel_rfl) ?_
        refine thenQ_n ?_
        refine Tr.conv (Conv.normT (keep := [4]) (ρ := [(1000000, 1000000), (1000001, 1000001), (300000, 500000)]) ⟨upd (deadT) 4 (vI .i64 0), upd (upd (upd (emptyS) 500000 (some (some (.ar 35 3 ((x17523 ++ ([(E35.mk x17519 x17520 y17549)])).map en35))))) 1000001 (some none)) 1000000 (some (some (.bx 59 [.sl .n 500000, vI .u32 x17519]))), 43, [1000000, 1000001]⟩ (by kernel_rfl)) ?_
        refine Tr.retN (by kernel_rfl) ?_
        cases h0
        exact finQ_r (by kernel_rfl) (by kernel_rfl)
def F15_v2 (k : Nat) (x17567 : Int) (x17568 : (List E35)) : Option Unit :=
  some ()
theorem ct_F15_v2 (k : Nat) (x17567 : Int) (x17568 : (List E35)) (r : Unit) (h0 : F15_v2 k x17567 x17568 = some r) : CTd Try.prog 15 [.pt 1000000 0] [(1000000, .bx 59 [.sl .n 1000001, vI .u32 x17567]), (1000001, .ar 35 3 (x17568.map en35))] (vI .i64 (x17568.length : Int)) (upd (upd (emptyS) 1000001 (some (some (.ar 35 3 (x17568.map en35))))) 1000000 (some (some (.bx 59 [.sl .n 1000001, vI .u32 x17567])))) := by
  refine CTd.of_tr Try.f15 Try.func15 (by kernel_rfl) ?_
  unfold F15_v2 at h0
  refine Tr.conv (Conv.normT (keep := [0]) (ρ := [(1000000, 1000000), (1000001, 1000001)]) ⟨upd (deadT) 0 (.pt 1000000 0), upd (upd (emptyS) 1000001 (some (some (.ar 35 3 (x17568.map en35))))) 1000000 (some (some (.bx 59 [.sl .n 1000001, vI .u32 x17567]))), 10, [1000000, 1000001]⟩ (by kernel_rfl)) ?_
  refine Tr.seqN (by kernel_rfl) ?_
  refine Tr.regionN (by kernel_rfl) ?_
  refine TrAt.goS good 1 [(2, vI .i64 0)] [] (by kernel_rfl) ?_
  refine TrAt.end_ (by kernel_rfl) ?_
  refine thenQ_n ?_
  refine Tr.seqN (by kernel_rfl) ?_
  refine Tr.seqN (by kernel_rfl) ?_
  refine Tr.regionN (by kernel_rfl) ?_
  refine TrAt.goS good 2 [(3, .pt 1000000 0), (4, vB false)] [] (by kernel_rfl) ?_
  refine TrAt.end_ (by kernel_rfl) ?_
  refine thenQ_n ?_
  refine Tr.condF (by kernel_rfl) (by kernel_rfl) ?_
  refine Tr.skipN (by kernel_rfl) ?_
  refine thenQ_n ?_
  refine Tr.seqN (by kernel_rfl) ?_
  refine Tr.regionN (by kernel_rfl) ?_
  refine TrAt.goS good 4 [(5, .pt 1000000 0), (6, .pt 1000000 0), (7, .pt 1000000 0), (8, .sl .n 1000001)] [] (by kernel_rfl) ?_
  refine TrAt.lawP 9 _ _ (by kernel_rfl) (by kernel_rfl) (by kernel_rfl) (by kernel_rfl) (lenSl_ok good (t := 44) (e := 35) (x := .tmp 8) (nl := .n) (enc := en35) (xs := x17568) (nm := 1000001) (e' := 35) (sz := 3) (by kernel_rfl) (by kernel_rfl) (by kernel_rfl) (by kernel_rfl)) ?_
  refine TrAt.goS good 1 [(2, vI .i64 (x17568.length : Int))] [] (by kernel_rfl) ?_
  refine TrAt.end_ (by kernel_rfl) ?_
  refine thenQ_n ?_
  refine Tr.conv (Conv.normT (keep := [2]) (ρ := [(1000000, 1000000), (1000001, 1000001)]) ⟨upd (deadT) 2 (vI .i64 (x17568.length : Int)), upd (upd (emptyS) 1000001 (some (some (.ar 35 3 (x17568.map en35))))) 1000000 (some (some (.bx 59 [.sl .n 1000001, vI .u32 x17567]))), 10, [1000000, 1000001]⟩ (by kernel_rfl)) ?_
  refine Tr.retN (by kernel_rfl) ?_
  cases h0
  exact finQ_r (by kernel_rfl) (by kernel_rfl)
def F16_v2 (k : Nat) (x17572 : Int) (x17573 : (List E35)) : Option Unit :=
  some ()
theorem ct_F16_v2 (k : Nat) (x17572 : Int) (x17573 : (List E35)) (r : Unit) (h0 : F16_v2 k x17572 x17573 = some r) : CTd Try.prog 16 [.pt 1000000 0] [(1000000, .bx 59 [.sl .n 1000001, vI .u32 x17572]), (1000001, .ar 35 3 (x17573.map en35))] (vI .u32 x17572) (upd (upd (emptyS) 1000001 (some (some (.ar 35 3 (x17573.map en35))))) 1000000 (some (some (.bx 59 [.sl .n 1000001, vI .u32 x17572])))) := by
  refine CTd.of_tr Try.f16 Try.func16 (by kernel_rfl) ?_
  unfold F16_v2 at h0
  refine Tr.conv (Conv.normT (keep := [0]) (ρ := [(1000000, 1000000), (1000001, 1000001)]) ⟨upd (deadT) 0 (.pt 1000000 0), upd (upd (emptyS) 1000001 (some (some (.ar 35 3 (x17573.map en35))))) 1000000 (some (some (.bx 59 [.sl .n 1000001, vI .u32 x17572]))), 9, [1000000, 1000001]⟩ (by kernel_rfl)) ?_
  refine Tr.seqN (by kernel_rfl) ?_
  refine Tr.regionN (by kernel_rfl) ?_
  refine TrAt.goS good 1 [(2, vI .u32 0)] [] (by kernel_rfl) ?_
  refine TrAt.end_ (by kernel_rfl) ?_
  refine thenQ_n ?_
  refine Tr.seqN (by kernel_rfl) ?_
  refine Tr.seqN (by kernel_rfl) ?_
  refine Tr.regionN (by kernel_rfl) ?_
  refine TrAt.goS good 2 [(3, .pt 1000000 0), (4, vB false)] [] (by kernel_rfl) ?_
  refine TrAt.end_ (by kernel_rfl) ?_
  refine thenQ_n ?_
  refine Tr.condF (by kernel_rfl) (by kernel_rfl) ?_
  refine Tr.skipN (by kernel_rfl) ?_
  refine thenQ_n ?_
  refine Tr.seqN (by kernel_rfl) ?_
  refine Tr.regionN (by kernel_rfl) ?_
  refine TrAt.goS good 5 [(5, .pt 1000000 0), (6, .pt 1000000 0), (7, .pt 1000000 1), (8, vI .u32 x17572), (2, vI .u32 x17572)] [] (by kernel_rfl) ?_
  refine TrAt.end_ (by kernel_rfl) ?_
  refine thenQ_n ?_
  refine Tr.conv (Conv.normT (keep := [2]) (ρ := [(1000000, 1000000), (1000001, 1000001)]) ⟨upd (deadT) 2 (vI .u32 x17572), upd (upd (emptyS) 1000001 (some (some (.ar 35 3 (x17573.map en35))))) 1000000 (some (some (.bx 59 [.sl .n 1000001, vI .u32 x17572]))), 9, [1000000, 1000001]⟩ (by kernel_rfl)) ?_
  refine Tr.retN (by kernel_rfl) ?_
  cases h0
  exact finQ_r (by kernel_rfl) (by kernel_rfl)
def F27_v1 (k : Nat)  : Option Unit :=
  some ()
theorem ct_F27_v1 (k : Nat)  (r : Unit) (h0 : F27_v1 k = some r) : CTd Try.prog 27 [.t (.sc (.slice none 0 0))] [] (.t (.sc (.slice none 0 0))) (emptyS) := by
  refine CTd.of_tr Try.f27 Try.func27 (by kernel_rfl) ?_
  unfold F27_v1 at h0
  refine Tr.conv (Conv.normT (keep := [0]) (ρ := []) ⟨upd (deadT) 0 (.t (.sc (.slice none 0 0))), emptyS, 8, []⟩ (by kernel_rfl)) ?_
  refine Tr.seqN (by kernel_rfl) ?_
  refine Tr.regionN (by kernel_rfl) ?_
  refine TrAt.goS good 1 [(2, .t (.sc (.slice none 0 0)))] [] (by kernel_rfl) ?_
  refine TrAt.end_ (by kernel_rfl) ?_
  refine thenQ_n ?_
  refine Tr.seqN (by kernel_rfl) ?_
  refine Tr.seqN (by kernel_rfl) ?_
  refine Tr.regionN (by kernel_rfl) ?_
  refine TrAt.goS good 2 [(3, .t (.sc (.slice none 0 0))), (4, vB true)] [] (by kernel_rfl) ?_
  refine TrAt.end_ (by kernel_rfl) ?_
  refine thenQ_n ?_
  refine Tr.condT (by kernel_rfl) (by kernel_rfl) ?_
  refine Tr.seqN (by kernel_rfl) ?_
  refine Tr.regionN (by kernel_rfl) ?_
  refine TrAt.goS good 1 [(2, .t (.sc (.slice none 0 0)))] [] (by kernel_rfl) ?_
  refine TrAt.end_ (by kernel_rfl) ?_
  refine thenQ_n ?_
  refine Tr.conv (Conv.normT (keep := [2]) (ρ := []) ⟨upd (deadT) 2 (.t (.sc (.slice none 0 0))), emptyS, 8, []⟩ (by kernel_rfl)) ?_
  refine Tr.retN (by kernel_rfl) ?_
  refine thenQ_r ?_
  cases h0
  exact finQ_r (by kernel_rfl) (by kernel_rfl)
def F17_v2_1 (k : Nat) (y17992 : Unit) : Option Unit :=
  grd (bnds 0 0 0) <|
  (F27_v1 k).bind fun y17995 =>
  some ()
def F17_v2_2 (k : Nat)  : Nat → Option Unit
  | 0 => none
  | n17998+1 =>
    some ()
def F17_v2 (k : Nat) (x17972 : Int) (x17973 : Int) : Option Unit :=
  (F17_v2_2 k  k).bind fun y17992 =>
  F17_v2_1 k y17992
theorem ct_F17_v2 (k : Nat) (x17972 : Int) (x17973 : Int) (r : Unit) (h0 : F17_v2 k x17972 x17973 = some r) : CTd Try.prog 17 [.pt 1000000 0, vI .u32 x17972] [(1000000, .bx 59 [.t (.sc (.slice none 0 0)), vI .u32 x17973])] (vI .i64 0) (upd (emptyS) 1000000 (some (some (.bx 59 [.t (.sc (.slice none 0 0)), vI .u32 x17973])))) := by
  refine CTd.of_tr Try.f17 Try.func17 (by kernel_rfl) ?_
  unfold F17_v2 at h0
  refine Tr.conv (Conv.normT (keep := [0, 1]) (ρ := [(1000000, 1000000)]) ⟨upd (upd (deadT) 1 (vI .u32 x17972)) 0 (.pt 1000000 0), upd (emptyS) 1000000 (some (some (.bx 59 [.t (.sc (.slice none 0 0)), vI .u32 x17973]))), 40, [1000000]⟩ (by kernel_rfl)) ?_
  refine Tr.seqN (by kernel_rfl) ?_
  refine Tr.regionN (by kernel_rfl) ?_
  refine TrAt.goS good 1 [(4, vI .i64 0)] [] (by kernel_rfl) ?_
  refine TrAt.end_ (by kernel_rfl) ?_
  refine thenQ_n ?_
  refine Tr.seqN (by kernel_rfl) ?_
  refine Tr.seqN (by kernel_rfl) ?_
  refine Tr.regionN (by kernel_rfl) ?_
  refine TrAt.goS good 2 [(6, .pt 1000000 0), (7, vB false)] [] (by kernel_rfl) ?_
  refine TrAt.end_ (by kernel_rfl) ?_
  refine thenQ_n ?_
  refine Tr.condF (by kernel_rfl) (by kernel_rfl) ?_
  refine Tr.skipN (by kernel_rfl) ?_
  refine thenQ_n ?_
  refine Tr.seqN (by kernel_rfl) ?_
  refine Tr.regionN (by kernel_rfl) ?_
  refine TrAt.goS good 1 [(5, vI .i64 0)] [] (by kernel_rfl) ?_
  refine TrAt.end_ (by kernel_rfl) ?_
  refine thenQ_n ?_
  refine Tr.seqN (by kernel_rfl) ?_
  refine Tr.blockN (by kernel_rfl) ?_
  obtain ⟨y17992, h17993, h0⟩ := bind_out h0
  refine Tr.conv (Conv.normT (keep := [0, 1, 5]) (ρ := [(1000000, 1000000)]) ⟨upd (upd (upd (deadT) 5 (vI .i64 0)) 1 (vI .u32 x17972)) 0 (.pt 1000000 0), upd (emptyS) 1000000 (some (some (.bx 59 [.t (.sc (.slice none 0 0)), vI .u32 x17973]))), 40, [1000000]⟩ (by kernel_rfl)) ?_
  refine Tr.exJoin 0 (fun st => st = ⟨upd (upd (deadT) 5 (vI .i64 0)) 0 (.pt 1000000 0), upd (emptyS) 1000000 (some (some (.bx 59 [.t (.sc (.slice none 0 0)), vI .u32 x17973]))), 40, [1000000]⟩) ?_ ?_
  · rintro st rfl
    have h0 : F17_v2_1 k y17992 = some r := h0
    unfold F17_v2_1 at h0
    refine inBlockQ_hit (by kernel_rfl) ?_
    refine thenQ_n ?_
    refine Tr.seqN (by kernel_rfl) ?_
    refine Tr.regionN (by kernel_rfl) ?_
    refine TrAt.goS good 6 [(29, .pt 1000000 0), (30, .pt 1000000 0), (31, .pt 1000000 0), (32, .pt 1000000 0), (33, .t (.sc (.slice none 0 0))), (34, vI .i64 0)] [] (by kernel_rfl) ?_
    obtain ⟨g17994, h0⟩ := grd_out h0
    refine TrAt.lawP 35 _ _ (by kernel_rfl) (by kernel_rfl) (by kernel_rfl) (by kernel_rfl) (cutNil_ok good (t := 44) (e := 35) (x := .tmp 33) (lo := (some (.tmp 34))) (hi := none) (l := 0) (h := 0) (by kernel_rfl) (by kernel_rfl) (by kernel_rfl) (by kernel_rfl) (by kernel_rfl) (by kernel_rfl) g17994) ?_
    obtain ⟨y17995, h17996, h0⟩ := bind_out h0
    refine TrAt.callD (caps := []) 36 (.t (.sc (.slice none 0 0))) [] [] (.func 27) #[.tmp 35] #[44] (ct_F27_v1 k y17995 h17996) Try.func27 (by kernel_rfl) (by kernel_rfl) (by kernel_rfl) (by kernel_rfl) (by kernel_rfl) (by kernel_rfl) (by kernel_rfl) (by kernel_rfl) (by kernel_rfl) (by kernel_rfl) (by kernel_rfl) (by kernel_rfl) (by kernel_rfl) (by kernel_rfl) (by kernel_rfl) ?_
    refine TrAt.goS good 3 [(37, .pt 1000000 0), (38, .pt 1000000 0)] [(1000000, .bx 59 [.t (.sc (.slice none 0 0)), vI .u32 x17973])] (by kernel_rfl) ?_
    refine TrAt.end_ (by kernel_rfl) ?_
    refine thenQ_n ?_
    refine Tr.seqN (by kernel_rfl) ?_
    refine Tr.regionN (by kernel_rfl) ?_
    refine TrAt.goS good 2 [(39, vI .i64 0), (4, vI .i64 0)] [] (by kernel_rfl) ?_
    refine TrAt.end_ (by kernel_rfl) ?_
    refine thenQ_n ?_
    refine Tr.conv (Conv.normT (keep := [4]) (ρ := [(1000000, 1000000)]) ⟨upd (deadT) 4 (vI .i64 0), upd (emptyS) 1000000 (some (some (.bx 59 [.t (.sc (.slice none 0 0)), vI .u32 x17973]))), 40, [1000000]⟩ (by kernel_rfl)) ?_
    refine Tr.retN (by kernel_rfl) ?_
    cases h0
    exact finQ_r (by kernel_rfl) (by kernel_rfl)
  refine Tr.loopN (fun n st => F17_v2_2 k  n = some y17992 ∧ st = ⟨upd (upd (upd (deadT) 5 (vI .i64 0)) 1 (vI .u32 x17972)) 0 (.pt 1000000 0), upd (emptyS) 1000000 (some (some (.bx 59 [.t (.sc (.slice none 0 0)), vI .u32 x17973]))), 40, [1000000]⟩) k (by kernel_rfl) ⟨h17993, rfl⟩ ?_
  rintro n17998 st ⟨h17997, rfl⟩
  cases n17998 with
  | zero => exact nomatch (show (none : Option Unit) = some y17992 from h17997)
  | succ n17998 =>
    unfold F17_v2_2 at h17997
    refine Tr.seqN (by kernel_rfl) ?_
    refine Tr.seqN (by kernel_rfl) ?_
    refine Tr.regionN (by kernel_rfl) ?_
    refine TrAt.goS good 19 [(8, vI .i64 0), (9, .pt 1000000 0), (10, .pt 1000000 0), (11, .pt 1000000 0), (12, .t (.sc (.slice none 0 0))), (13, vI .i64 0), (14, vB false), (15, vB false), (16, .tp []), (17, .tp []), (18, .tp []), (19, .tp []), (20, .tp []), (21, .tp []), (22, .tp []), (23, .tp []), (24, .tp []), (25, .tp []), (26, vB false)] [] (by kernel_rfl) ?_
    refine TrAt.end_ (by kernel_rfl) ?_
    refine thenQ_n ?_
    refine Tr.condF (by kernel_rfl) (by kernel_rfl) ?_
    refine Tr.conv (Conv.normT (keep := [0, 5]) (ρ := [(1000000, 1000000)]) ⟨upd (upd (deadT) 5 (vI .i64 0)) 0 (.pt 1000000 0), upd (emptyS) 1000000 (some (some (.bx 59 [.t (.sc (.slice none 0 0)), vI .u32 x17973]))), 40, [1000000]⟩ (by kernel_rfl)) ?_
    refine Tr.exitN (by kernel_rfl) ?_
    refine thenQ_x ?_
    refine loopQ_x ?_
    refine exQ_hit (by kernel_rfl) ?_
    cases h17997
    rfl
def F18_1 (k : Nat) (y18015 : Unit) : Option Unit :=
  some ()
def F18_2 (k : Nat)  : Nat → Option Unit
  | 0 => none
  | n18018+1 =>
    some ()
def F18 (k : Nat) (x18001 : Int) (x18002 : Int) : Option Unit :=
  (F18_2 k  k).bind fun y18015 =>
  F18_1 k y18015
theorem ct_F18 (k : Nat) (x18001 : Int) (x18002 : Int) (r : Unit) (h0 : F18 k x18001 x18002 = some r) : CTd Try.prog 18 [.pt 1000000 0, vI .u32 x18001] [(1000000, .bx 46 [.t (.sc (.slice none 0 0)), vI .u32 x18002])] (vI .i64 0) (upd (emptyS) 1000000 (some (some (.bx 46 [.t (.sc (.slice none 0 0)), vI .u32 x18002])))) := by
  refine CTd.of_tr Try.f18 Try.func18 (by kernel_rfl) ?_
  unfold F18 at h0
  refine Tr.conv (Conv.normT (keep := [0, 1]) (ρ := [(1000000, 1000000)]) ⟨upd (upd (deadT) 1 (vI .u32 x18001)) 0 (.pt 1000000 0), upd (emptyS) 1000000 (some (some (.bx 46 [.t (.sc (.slice none 0 0)), vI .u32 x18002]))), 50, [1000000]⟩ (by kernel_rfl)) ?_
  refine Tr.seqN (by kernel_rfl) ?_
  refine Tr.regionN (by kernel_rfl) ?_
  refine TrAt.goS good 1 [(4, vI .i64 0)] [] (by kernel_rfl) ?_
  refine TrAt.end_ (by kernel_rfl) ?_
  refine thenQ_n ?_
  refine Tr.seqN (by kernel_rfl) ?_
  refine Tr.regionN (by kernel_rfl) ?_
  refine TrAt.goS good 1 [(5, .t (.sc (.slice none 0 0)))] [] (by kernel_rfl) ?_
  refine TrAt.end_ (by kernel_rfl) ?_
  refine thenQ_n ?_
  refine Tr.seqN (by kernel_rfl) ?_
  refine Tr.seqN (by kernel_rfl) ?_
  refine Tr.regionN (by kernel_rfl) ?_
  refine TrAt.goS good 1 [(6, vI .i64 0)] [] (by kernel_rfl) ?_
  refine TrAt.end_ (by kernel_rfl) ?_
  refine thenQ_n ?_
  refine Tr.blockN (by kernel_rfl) ?_
  obtain ⟨y18015, h18016, h0⟩ := bind_out h0
  refine Tr.conv (Conv.normT (keep := [0, 1, 5, 6]) (ρ := [(1000000, 1000000)]) ⟨upd (upd (upd (upd (deadT) 6 (vI .i64 0)) 5 (.t (.sc (.slice none 0 0)))) 1 (vI .u32 x18001)) 0 (.pt 1000000 0), upd (emptyS) 1000000 (some (some (.bx 46 [.t (.sc (.slice none 0 0)), vI .u32 x18002]))), 50, [1000000]⟩ (by kernel_rfl)) ?_
  refine Tr.exJoin 0 (fun st => st = ⟨upd (upd (deadT) 5 (.t (.sc (.slice none 0 0)))) 0 (.pt 1000000 0), upd (emptyS) 1000000 (some (some (.bx 46 [.t (.sc (.slice none 0 0)), vI .u32 x18002]))), 50, [1000000]⟩) ?_ ?_
  · rintro st rfl
    have h0 : F18_1 k y18015 = some r := h0
    unfold F18_1 at h0
    refine inBlockQ_hit (by kernel_rfl) ?_
    refine thenQ_n ?_
    refine Tr.seqN (by kernel_rfl) ?_
    refine Tr.regionN (by kernel_rfl) ?_
    refine TrAt.goS good 9 [(37, .pt 1000000 0), (38, .pt 1000000 0), (39, .pt 1000000 0), (40, .t (.sc (.slice none 0 0))), (41, vI .i64 0), (42, .t (.sc (.slice none 0 0))), (43, vI .i64 0), (44, vI .i64 0), (7, vI .i64 0)] [] (by kernel_rfl) ?_
    refine TrAt.end_ (by kernel_rfl) ?_
    refine thenQ_n ?_
    refine Tr.seqN (by kernel_rfl) ?_
    refine Tr.regionN (by kernel_rfl) ?_
    refine TrAt.goS good 5 [(45, .pt 1000000 0), (46, .t (.sc (.slice none 0 0))), (47, .pt 1000000 0), (48, .pt 1000000 0)] [(1000000, .bx 46 [.t (.sc (.slice none 0 0)), vI .u32 x18002])] (by kernel_rfl) ?_
    refine TrAt.end_ (by kernel_rfl) ?_
    refine thenQ_n ?_
    refine Tr.seqN (by kernel_rfl) ?_
    refine Tr.regionN (by kernel_rfl) ?_
    refine TrAt.goS good 2 [(49, vI .i64 0), (4, vI .i64 0)] [] (by kernel_rfl) ?_
    refine TrAt.end_ (by kernel_rfl) ?_
    refine thenQ_n ?_
    refine Tr.conv (Conv.normT (keep := [4]) (ρ := [(1000000, 1000000)]) ⟨upd (deadT) 4 (vI .i64 0), upd (emptyS) 1000000 (some (some (.bx 46 [.t (.sc (.slice none 0 0)), vI .u32 x18002]))), 50, [1000000]⟩ (by kernel_rfl)) ?_
    refine Tr.retN (by kernel_rfl) ?_
    cases h0
    exact finQ_r (by kernel_rfl) (by kernel_rfl)
  refine Tr.loopN (fun n st => F18_2 k  n = some y18015 ∧ st = ⟨upd (upd (upd (upd (deadT) 6 (vI .i64 0)) 5 (.t (.sc (.slice none 0 0)))) 1 (vI .u32 x18001)) 0 (.pt 1000000 0), upd (emptyS) 1000000 (some (some (.bx 46 [.t (.sc (.slice none 0 0)), vI .u32 x18002]))), 50, [1000000]⟩) k (by kernel_rfl) ⟨h18016, rfl⟩ ?_
  rintro n18018 st ⟨h18017, rfl⟩
  cases n18018 with
  | zero => exact nomatch (show (none : Option Unit) = some y18015 from h18017)
  | succ n18018 =>
    unfold F18_2 at h18017
    refine Tr.seqN (by kernel_rfl) ?_
    refine Tr.seqN (by kernel_rfl) ?_
    refine Tr.regionN (by kernel_rfl) ?_
    refine TrAt.goS good 7 [(8, vI .i64 0), (9, .pt 1000000 0), (10, .pt 1000000 0), (11, .pt 1000000 0), (12, .t (.sc (.slice none 0 0))), (13, vI .i64 0), (14, vB false)] [] (by kernel_rfl) ?_
    refine TrAt.end_ (by kernel_rfl) ?_
    refine thenQ_n ?_
    refine Tr.condF (by kernel_rfl) (by kernel_rfl) ?_
    refine Tr.conv (Conv.normT (keep := [0, 5]) (ρ := [(1000000, 1000000)]) ⟨upd (upd (deadT) 5 (.t (.sc (.slice none 0 0)))) 0 (.pt 1000000 0), upd (emptyS) 1000000 (some (some (.bx 46 [.t (.sc (.slice none 0 0)), vI .u32 x18002]))), 50, [1000000]⟩ (by kernel_rfl)) ?_
    refine Tr.exitN (by kernel_rfl) ?_
    refine thenQ_x ?_
    refine loopQ_x ?_
    refine exQ_hit (by kernel_rfl) ?_
    cases h18017
    rfl
def F19_v1_1 (k : Nat) (y18040 : Unit) : Option Unit :=
  some ()
def F19_v1_2 (k : Nat)  : Nat → Option Unit
  | 0 => none
  | n18043+1 =>
    some ()
def F19_v1 (k : Nat) (x18026 : Int) (x18027 : Int) : Option Unit :=
  (F19_v1_2 k  k).bind fun y18040 =>
  F19_v1_1 k y18040
theorem ct_F19_v1 (k : Nat) (x18026 : Int) (x18027 : Int) (r : Unit) (h0 : F19_v1 k x18026 x18027 = some r) : CTd Try.prog 19 [.pt 1000000 0, vI .u32 x18026] [(1000000, .bx 59 [.t (.sc (.slice none 0 0)), vI .u32 x18027])] (.tp [.ag [vI .u32 0, vI .u32 0, .t (.sc (.slice none 0 0))], vB false]) (upd (upd (emptyS) 500000 (some (some (.bx 35 [vI .u32 0, vI .u32 0, .t (.sc (.slice none 0 0))])))) 1000000 (some (some (.bx 59 [.t (.sc (.slice none 0 0)), vI .u32 x18027])))) := by
  refine CTd.of_tr Try.f19 Try.func19 (by kernel_rfl) ?_
  unfold F19_v1 at h0
  refine Tr.conv (Conv.normT (keep := [0, 1]) (ρ := [(1000000, 1000000)]) ⟨upd (upd (deadT) 1 (vI .u32 x18026)) 0 (.pt 1000000 0), upd (emptyS) 1000000 (some (some (.bx 59 [.t (.sc (.slice none 0 0)), vI .u32 x18027]))), 27, [1000000]⟩ (by kernel_rfl)) ?_
  refine Tr.seqN (by kernel_rfl) ?_
  refine Tr.regionN (by kernel_rfl) ?_
  refine TrAt.goS good 2 [(4, .pt 4 0), (5, vB false)] [(4, .bx 35 [vI .u32 0, vI .u32 0, .t (.sc (.slice none 0 0))])] (by kernel_rfl) ?_
  refine TrAt.end_ (by kernel_rfl) ?_
  refine thenQ_n ?_
  refine Tr.seqN (by kernel_rfl) ?_
  refine Tr.seqN (by kernel_rfl) ?_
  refine Tr.regionN (by kernel_rfl) ?_
  refine TrAt.goS good 2 [(8, .pt 1000000 0), (9, vB true)] [] (by kernel_rfl) ?_
  refine TrAt.end_ (by kernel_rfl) ?_
  refine thenQ_n ?_
  refine Tr.condT (by kernel_rfl) (by kernel_rfl) ?_
  refine Tr.seqN (by kernel_rfl) ?_
  refine Tr.regionN (by kernel_rfl) ?_
  refine TrAt.goS good 6 [(10, .pt 1000000 0), (11, .pt 1000000 0), (12, .pt 1000000 0), (13, .t (.sc (.slice none 0 0))), (14, vI .i64 0), (15, vI .i64 0)] [] (by kernel_rfl) ?_
  refine TrAt.end_ (by kernel_rfl) ?_
  refine thenQ_n ?_
  refine Tr.blockN (by kernel_rfl) ?_
  obtain ⟨y18040, h18041, h0⟩ := bind_out h0
  refine Tr.conv (Conv.normT (keep := [1, 4, 13, 14, 15]) (ρ := [(1000000, 1000000), (4, 300000)]) ⟨upd (upd (upd (upd (upd (deadT) 15 (vI .i64 0)) 14 (vI .i64 0)) 13 (.t (.sc (.slice none 0 0)))) 4 (.pt 300000 0)) 1 (vI .u32 x18026), upd (upd (emptyS) 300000 (some (some (.bx 35 [vI .u32 0, vI .u32 0, .t (.sc (.slice none 0 0))])))) 1000000 (some (some (.bx 59 [.t (.sc (.slice none 0 0)), vI .u32 x18027]))), 27, [1000000]⟩ (by kernel_rfl)) ?_
  refine Tr.exJoin 0 (fun st => st = ⟨upd (deadT) 4 (.pt 300000 0), upd (upd (emptyS) 300000 (some (some (.bx 35 [vI .u32 0, vI .u32 0, .t (.sc (.slice none 0 0))])))) 1000000 (some (some (.bx 59 [.t (.sc (.slice none 0 0)), vI .u32 x18027]))), 27, [1000000]⟩) ?_ ?_
  · rintro st rfl
    have h0 : F19_v1_1 k y18040 = some r := h0
    unfold F19_v1_1 at h0
    refine inBlockQ_hit (by kernel_rfl) ?_
    refine thenQ_n ?_
    refine Tr.seqN (by kernel_rfl) ?_
    refine Tr.regionN (by kernel_rfl) ?_
    refine TrAt.goS good 3 [(26, .ag [vI .u32 0, vI .u32 0, .t (.sc (.slice none 0 0))]), (5, vB false)] [(300000, .bx 35 [vI .u32 0, vI .u32 0, .t (.sc (.slice none 0 0))])] (by kernel_rfl) ?_
    refine TrAt.end_ (by kernel_rfl) ?_
    refine thenQ_n ?_
    refine Tr.conv (Conv.normT (keep := [4, 5]) (ρ := [(1000000, 1000000), (300000, 500000)]) ⟨upd (upd (deadT) 5 (vB false)) 4 (.pt 500000 0), upd (upd (emptyS) 500000 (some (some (.bx 35 [vI .u32 0, vI .u32 0, .t (.sc (.slice none 0 0))])))) 1000000 (some (some (.bx 59 [.t (.sc (.slice none 0 0)), vI .u32 x18027]))), 27, [1000000]⟩ (by kernel_rfl)) ?_
    refine Tr.retN (by kernel_rfl) ?_
    cases h0
    exact finQ_r (by kernel_rfl) (by kernel_rfl)
  refine Tr.loopN (fun n st => F19_v1_2 k  n = some y18040 ∧ st = ⟨upd (upd (upd (upd (upd (deadT) 15 (vI .i64 0)) 14 (vI .i64 0)) 13 (.t (.sc (.slice none 0 0)))) 4 (.pt 300000 0)) 1 (vI .u32 x18026), upd (upd (emptyS) 300000 (some (some (.bx 35 [vI .u32 0, vI .u32 0, .t (.sc (.slice none 0 0))])))) 1000000 (some (some (.bx 59 [.t (.sc (.slice none 0 0)), vI .u32 x18027]))), 27, [1000000]⟩) k (by kernel_rfl) ⟨h18041, rfl⟩ ?_
  rintro n18043 st ⟨h18042, rfl⟩
  cases n18043 with
  | zero => exact nomatch (show (none : Option Unit) = some y18040 from h18042)
  | succ n18043 =>
    unfold F19_v1_2 at h18042
    refine Tr.seqN (by kernel_rfl) ?_
    refine Tr.regionN (by kernel_rfl) ?_
    refine TrAt.goS good 1 [(16, vB false)] [] (by kernel_rfl) ?_
    refine TrAt.end_ (by kernel_rfl) ?_
    refine thenQ_n ?_
    refine Tr.seqN (by kernel_rfl) ?_
    refine Tr.condF (by kernel_rfl) (by kernel_rfl) ?_
    refine Tr.conv (Conv.normT (keep := [4]) (ρ := [(1000000, 1000000), (300000, 300000)]) ⟨upd (deadT) 4 (.pt 300000 0), upd (upd (emptyS) 300000 (some (some (.bx 35 [vI .u32 0, vI .u32 0, .t (.sc (.slice none 0 0))])))) 1000000 (some (some (.bx 59 [.t (.sc (.slice none 0 0)), vI .u32 x18027]))), 27, [1000000]⟩ (by kernel_rfl)) ?_
    refine Tr.exitN (by kernel_rfl) ?_
    refine thenQ_x ?_
    refine loopQ_x ?_
    refine exQ_hit (by kernel_rfl) ?_
    cases h18042
    rfl
def F20_1 (k : Nat) (y18062 : Unit) : Option Unit :=
  some ()
def F20_2 (k : Nat)  : Nat → Option Unit
  | 0 => none
  | n18065+1 =>
    some ()
def F20 (k : Nat) (x18048 : Int) (x18049 : Int) : Option Unit :=
  (F20_2 k  k).bind fun y18062 =>
  F20_1 k y18062
theorem ct_F20 (k : Nat) (x18048 : Int) (x18049 : Int) (r : Unit) (h0 : F20 k x18048 x18049 = some r) : CTd Try.prog 20 [.pt 1000000 0, vI .u32 x18048] [(1000000, .bx 46 [.t (.sc (.slice none 0 0)), vI .u32 x18049])] (.tp [.ag [vI .u32 0, vI .u32 0, .t (.sc (.slice none 0 0))], vB false]) (upd (upd (emptyS) 500000 (some (some (.bx 35 [vI .u32 0, vI .u32 0, .t (.sc (.slice none 0 0))])))) 1000000 (some (some (.bx 46 [.t (.sc (.slice none 0 0)), vI .u32 x18049])))) := by
  refine CTd.of_tr Try.f20 Try.func20 (by kernel_rfl) ?_
  unfold F20 at h0
  refine Tr.conv (Conv.normT (keep := [0, 1]) (ρ := [(1000000, 1000000)]) ⟨upd (upd (deadT) 1 (vI .u32 x18048)) 0 (.pt 1000000 0), upd (emptyS) 1000000 (some (some (.bx 46 [.t (.sc (.slice none 0 0)), vI .u32 x18049]))), 34, [1000000]⟩ (by kernel_rfl)) ?_
  refine Tr.seqN (by kernel_rfl) ?_
  refine Tr.regionN (by kernel_rfl) ?_
  refine TrAt.goS good 2 [(4, .pt 4 0), (5, vB false)] [(4, .bx 35 [vI .u32 0, vI .u32 0, .t (.sc (.slice none 0 0))])] (by kernel_rfl) ?_
  refine TrAt.end_ (by kernel_rfl) ?_
  refine thenQ_n ?_
  refine Tr.seqN (by kernel_rfl) ?_
  refine Tr.seqN (by kernel_rfl) ?_
  refine Tr.regionN (by kernel_rfl) ?_
  refine TrAt.goS good 1 [(6, vI .i64 0)] [] (by kernel_rfl) ?_
  refine TrAt.end_ (by kernel_rfl) ?_
  refine thenQ_n ?_
  refine Tr.blockN (by kernel_rfl) ?_
  obtain ⟨y18062, h18063, h0⟩ := bind_out h0
  refine Tr.conv (Conv.normT (keep := [0, 1, 4, 6]) (ρ := [(1000000, 1000000), (4, 300000)]) ⟨upd (upd (upd (upd (deadT) 6 (vI .i64 0)) 4 (.pt 300000 0)) 1 (vI .u32 x18048)) 0 (.pt 1000000 0), upd (upd (emptyS) 300000 (some (some (.bx 35 [vI .u32 0, vI .u32 0, .t (.sc (.slice none 0 0))])))) 1000000 (some (some (.bx 46 [.t (.sc (.slice none 0 0)), vI .u32 x18049]))), 34, [1000000]⟩ (by kernel_rfl)) ?_
  refine Tr.exJoin 0 (fun st => st = ⟨upd (deadT) 4 (.pt 300000 0), upd (upd (emptyS) 300000 (some (some (.bx 35 [vI .u32 0, vI .u32 0, .t (.sc (.slice none 0 0))])))) 1000000 (some (some (.bx 46 [.t (.sc (.slice none 0 0)), vI .u32 x18049]))), 34, [1000000]⟩) ?_ ?_
  · rintro st rfl
    have h0 : F20_1 k y18062 = some r := h0
    unfold F20_1 at h0
    refine inBlockQ_hit (by kernel_rfl) ?_
    refine thenQ_n ?_
    refine Tr.seqN (by kernel_rfl) ?_
    refine Tr.regionN (by kernel_rfl) ?_
    refine TrAt.goS good 3 [(33, .ag [vI .u32 0, vI .u32 0, .t (.sc (.slice none 0 0))]), (5, vB false)] [(300000, .bx 35 [vI .u32 0, vI .u32 0, .t (.sc (.slice none 0 0))])] (by kernel_rfl) ?_
    refine TrAt.end_ (by kernel_rfl) ?_
    refine thenQ_n ?_
    refine Tr.conv (Conv.normT (keep := [4, 5]) (ρ := [(1000000, 1000000), (300000, 500000)]) ⟨upd (upd (deadT) 5 (vB false)) 4 (.pt 500000 0), upd (upd (emptyS) 500000 (some (some (.bx 35 [vI .u32 0, vI .u32 0, .t (.sc (.slice none 0 0))])))) 1000000 (some (some (.bx 46 [.t (.sc (.slice none 0 0)), vI .u32 x18049]))), 34, [1000000]⟩ (by kernel_rfl)) ?_
    refine Tr.retN (by kernel_rfl) ?_
    cases h0
    exact finQ_r (by kernel_rfl) (by kernel_rfl)
  refine Tr.loopN (fun n st => F20_2 k  n = some y18062 ∧ st = ⟨upd (upd (upd (upd (deadT) 6 (vI .i64 0)) 4 (.pt 300000 0)) 1 (vI .u32 x18048)) 0 (.pt 1000000 0), upd (upd (emptyS) 300000 (some (some (.bx 35 [vI .u32 0, vI .u32 0, .t (.sc (.slice none 0 0))])))) 1000000 (some (some (.bx 46 [.t (.sc (.slice none 0 0)), vI .u32 x18049]))), 34, [1000000]⟩) k (by kernel_rfl) ⟨h18063, rfl⟩ ?_
  rintro n18065 st ⟨h18064, rfl⟩
  cases n18065 with
  | zero => exact nomatch (show (none : Option Unit) = some y18062 from h18064)
  | succ n18065 =>
    unfold F20_2 at h18064
    refine Tr.seqN (by kernel_rfl) ?_
    refine Tr.seqN (by kernel_rfl) ?_
    refine Tr.regionN (by kernel_rfl) ?_
    refine TrAt.goS good 7 [(7, vI .i64 0), (8, .pt 1000000 0), (9, .pt 1000000 0), (10, .pt 1000000 0), (11, .t (.sc (.slice none 0 0))), (12, vI .i64 0), (13, vB false)] [] (by kernel_rfl) ?_
    refine TrAt.end_ (by kernel_rfl) ?_
    refine thenQ_n ?_
    refine Tr.condF (by kernel_rfl) (by kernel_rfl) ?_
    refine Tr.conv (Conv.normT (keep := [4]) (ρ := [(1000000, 1000000), (300000, 300000)]) ⟨upd (deadT) 4 (.pt 300000 0), upd (upd (emptyS) 300000 (some (some (.bx 35 [vI .u32 0, vI .u32 0, .t (.sc (.slice none 0 0))])))) 1000000 (some (some (.bx 46 [.t (.sc (.slice none 0 0)), vI .u32 x18049]))), 34, [1000000]⟩ (by kernel_rfl)) ?_
    refine Tr.exitN (by kernel_rfl) ?_
    refine thenQ_x ?_
    refine loopQ_x ?_
    refine exQ_hit (by kernel_rfl) ?_
    cases h18064
    rfl
def F28_1 (k : Nat) (y18089 : Unit) : Option Unit :=
  some ()
def F28_2 (k : Nat)  : Nat → Option Unit
  | 0 => none
  | n18092+1 =>
    some ()
def F28 (k : Nat)  : Option Unit :=
  (F28_2 k  k).bind fun y18089 =>
  F28_1 k y18089
theorem ct_F28 (k : Nat)  (r : Unit) (h0 : F28 k = some r) : CTd Try.prog 28 [.t (.sc (.slice none 0 0)), .t (.sc (.slice none 0 0))] [] (vB true) (emptyS) := by
  refine CTd.of_tr Try.f28 Try.func28 (by kernel_rfl) ?_
  unfold F28 at h0
  refine Tr.conv (Conv.normT (keep := [0, 1]) (ρ := []) ⟨upd (upd (deadT) 1 (.t (.sc (.slice none 0 0)))) 0 (.t (.sc (.slice none 0 0))), emptyS, 26, []⟩ (by kernel_rfl)) ?_
  refine Tr.seqN (by kernel_rfl) ?_
  refine Tr.regionN (by kernel_rfl) ?_
  refine TrAt.goS good 1 [(4, vB false)] [] (by kernel_rfl) ?_
  refine TrAt.end_ (by kernel_rfl) ?_
  refine thenQ_n ?_
  refine Tr.seqN (by kernel_rfl) ?_
  refine Tr.seqN (by kernel_rfl) ?_
  refine Tr.regionN (by kernel_rfl) ?_
  refine TrAt.goS good 5 [(6, .t (.sc (.slice none 0 0))), (7, vI .i64 0), (8, .t (.sc (.slice none 0 0))), (9, vI .i64 0), (10, vB false)] [] (by kernel_rfl) ?_
  refine TrAt.end_ (by kernel_rfl) ?_
  refine thenQ_n ?_
  refine Tr.condF (by kernel_rfl) (by kernel_rfl) ?_
  refine Tr.skipN (by kernel_rfl) ?_
  refine thenQ_n ?_
  refine Tr.seqN (by kernel_rfl) ?_
  refine Tr.seqN (by kernel_rfl) ?_
  refine Tr.regionN (by kernel_rfl) ?_
  refine TrAt.goS good 1 [(5, vI .i64 0)] [] (by kernel_rfl) ?_
  refine TrAt.end_ (by kernel_rfl) ?_
  refine thenQ_n ?_
  refine Tr.blockN (by kernel_rfl) ?_
  obtain ⟨y18089, h18090, h0⟩ := bind_out h0
  refine Tr.conv (Conv.normT (keep := [0, 1, 5]) (ρ := []) ⟨upd (upd (upd (deadT) 5 (vI .i64 0)) 1 (.t (.sc (.slice none 0 0)))) 0 (.t (.sc (.slice none 0 0))), emptyS, 26, []⟩ (by kernel_rfl)) ?_
  refine Tr.exJoin 0 (fun st => st = ⟨deadT, emptyS, 26, []⟩) ?_ ?_
  · rintro st rfl
    have h0 : F28_1 k y18089 = some r := h0
    unfold F28_1 at h0
    refine inBlockQ_hit (by kernel_rfl) ?_
    refine thenQ_n ?_
    refine Tr.seqN (by kernel_rfl) ?_
    refine Tr.regionN (by kernel_rfl) ?_
    refine TrAt.goS good 1 [(4, vB true)] [] (by kernel_rfl) ?_
    refine TrAt.end_ (by kernel_rfl) ?_
    refine thenQ_n ?_
    refine Tr.conv (Conv.normT (keep := [4]) (ρ := []) ⟨upd (deadT) 4 (vB true), emptyS, 26, []⟩ (by kernel_rfl)) ?_
    refine Tr.retN (by kernel_rfl) ?_
    cases h0
    exact finQ_r (by kernel_rfl) (by kernel_rfl)
  refine Tr.loopN (fun n st => F28_2 k  n = some y18089 ∧ st = ⟨upd (upd (upd (deadT) 5 (vI .i64 0)) 1 (.t (.sc (.slice none 0 0)))) 0 (.t (.sc (.slice none 0 0))), emptyS, 26, []⟩) k (by kernel_rfl) ⟨h18090, rfl⟩ ?_
  rintro n18092 st ⟨h18091, rfl⟩
  cases n18092 with
  | zero => exact nomatch (show (none : Option Unit) = some y18089 from h18091)
  | succ n18092 =>
    unfold F28_2 at h18091
    refine Tr.seqN (by kernel_rfl) ?_
    refine Tr.seqN (by kernel_rfl) ?_
    refine Tr.regionN (by kernel_rfl) ?_
    refine TrAt.goS good 4 [(11, vI .i64 0), (12, .t (.sc (.slice none 0 0))), (13, vI .i64 0), (14, vB false)] [] (by kernel_rfl) ?_
    refine TrAt.end_ (by kernel_rfl) ?_
    refine thenQ_n ?_
    refine Tr.condF (by kernel_rfl) (by kernel_rfl) ?_
    refine Tr.conv (Conv.normT (keep := []) (ρ := []) ⟨deadT, emptyS, 26, []⟩ (by kernel_rfl)) ?_
    refine Tr.exitN (by kernel_rfl) ?_
    refine thenQ_x ?_
    refine loopQ_x ?_
    refine exQ_hit (by kernel_rfl) ?_
    cases h18091
    rfl
def F21_1 (k : Nat) (y18101 : Bool) : Option Bool :=
  some y18101
def F21 (k : Nat) (x18071 : Int) (x18072 : Int) (x18073 : Int) (x18074 : Int) : Option Bool :=
  cond (x18071 == x18073) (cond (x18072 == x18074) ((F28 k).bind fun y18104 =>
  F21_1 k true) (F21_1 k false)) (F21_1 k false)
theorem ct_F21 (k : Nat) (x18071 : Int) (x18072 : Int) (x18073 : Int) (x18074 : Int) (r : Bool) (h0 : F21 k x18071 x18072 x18073 x18074 = some r) : CTd Try.prog 21 [.ag [vI .u32 x18071, vI .u32 x18072, .t (.sc (.slice none 0 0))], .ag [vI .u32 x18073, vI .u32 x18074, .t (.sc (.slice none 0 0))]] [] (vB r) (emptyS) := by
  refine CTd.of_tr Try.f21 Try.func21 (by kernel_rfl) ?_
  unfold F21 at h0
  refine Tr.conv (Conv.normT (keep := [0, 1]) (ρ := []) ⟨upd (upd (deadT) 1 (.ag [vI .u32 x18073, vI .u32 x18074, .t (.sc (.slice none 0 0))])) 0 (.ag [vI .u32 x18071, vI .u32 x18072, .t (.sc (.slice none 0 0))]), emptyS, 24, []⟩ (by kernel_rfl)) ?_
  refine Tr.seqN (by kernel_rfl) ?_
  refine Tr.regionN (by kernel_rfl) ?_
  refine TrAt.goS good 3 [(2, .pt 2 0), (3, .pt 3 0), (4, vB false)] [(2, .bx 35 [vI .u32 x18071, vI .u32 x18072, .t (.sc (.slice none 0 0))]), (3, .bx 35 [vI .u32 x18073, vI .u32 x18074, .t (.sc (.slice none 0 0))])] (by kernel_rfl) ?_
  refine TrAt.end_ (by kernel_rfl) ?_
  refine thenQ_n ?_
  refine Tr.seqI (fun st => ∃ y18101, F21_1 k y18101 = some r ∧ st = ⟨upd (deadT) 4 (vB y18101), emptyS, 24, []⟩) (by kernel_rfl) ?_ ?_
  · refine Tr.regionN (by kernel_rfl) ?_
    refine TrAt.goS good 6 [(5, .pt 2 0), (6, vI .u32 x18071), (7, .pt 3 0), (8, vI .u32 x18073), (9, vB (x18071 == x18073)), (10, vB (x18071 == x18073))] [] (by kernel_rfl) ?_
    cases g18102 : ((x18071 == x18073) : Bool) with
    | true =>
      have h0 := cond_t g18102 h0
      refine TrAt.goS good 7 [(11, .pt 2 1), (12, vI .u32 x18072), (13, .pt 3 1), (14, vI .u32 x18074), (15, vB (x18072 == x18074)), (16, vB (x18072 == x18074)), (17, vB (x18072 == x18074))] [] (by kernel_rfl) ?_
      cases g18103 : ((x18072 == x18074) : Bool) with
      | true =>
        have h0 := cond_t g18103 h0
        refine TrAt.goS good 4 [(18, .pt 2 2), (19, .t (.sc (.slice none 0 0))), (20, .pt 3 2), (21, .t (.sc (.slice none 0 0)))] [] (by kernel_rfl) ?_
        obtain ⟨y18104, h18105, h0⟩ := bind_out h0
        refine TrAt.callD (caps := []) 22 (vB true) [] [] (.func 28) #[.tmp 19, .tmp 21] #[33, 33] (ct_F28 k y18104 h18105) Try.func28 (by kernel_rfl) (by kernel_rfl) (by kernel_rfl) (by kernel_rfl) (by kernel_rfl) (by kernel_rfl) (by kernel_rfl) (by kernel_rfl) (by kernel_rfl) (by kernel_rfl) (by kernel_rfl) (by kernel_rfl) (by kernel_rfl) (by kernel_rfl) (by kernel_rfl) ?_
        refine TrAt.goS good 2 [(23, vB true), (4, vB true)] [] (by kernel_rfl) ?_
        refine TrAt.conv (Conv.normT (keep := [4]) (ρ := []) ⟨upd (deadT) 4 (vB true), emptyS, 24, []⟩ (by kernel_rfl)) ?_
        refine TrAt.end_ (by kernel_rfl) ?_
        refine thenI_n ?_
        exact ⟨true, h0, rfl⟩
      | false =>
        have h0 := cond_f g18103 h0
        refine TrAt.goS good 7 [(18, .tp []), (19, .tp []), (20, .tp []), (21, .tp []), (22, .tp []), (23, vB false), (4, vB false)] [] (by kernel_rfl) ?_
        refine TrAt.conv (Conv.normT (keep := [4]) (ρ := []) ⟨upd (deadT) 4 (vB false), emptyS, 24, []⟩ (by kernel_rfl)) ?_
        refine TrAt.end_ (by kernel_rfl) ?_
        refine thenI_n ?_
        exact ⟨false, h0, rfl⟩
    | false =>
      have h0 := cond_f g18102 h0
      refine TrAt.goS good 14 [(11, .tp []), (12, .tp []), (13, .tp []), (14, .tp []), (15, .tp []), (16, vB false), (17, vB false), (18, .tp []), (19, .tp []), (20, .tp []), (21, .tp []), (22, .tp []), (23, vB false), (4, vB false)] [] (by kernel_rfl) ?_
      refine TrAt.conv (Conv.normT (keep := [4]) (ρ := []) ⟨upd (deadT) 4 (vB false), emptyS, 24, []⟩ (by kernel_rfl)) ?_
      refine TrAt.end_ (by kernel_rfl) ?_
      refine thenI_n ?_
      exact ⟨false, h0, rfl⟩
  · rintro st ⟨y18101, h0, rfl⟩
    unfold F21_1 at h0
    refine Tr.conv (Conv.normT (keep := [4]) (ρ := []) ⟨upd (deadT) 4 (vB y18101), emptyS, 24, []⟩ (by kernel_rfl)) ?_
    refine Tr.retN (by kernel_rfl) ?_
    cases h0
    exact finQ_r (by kernel_rfl) (by kernel_rfl)
def F12_v2_1 (k : Nat) (y18148 : Unit) : Option Unit :=
  some ()
def F12_v2_2 (k : Nat)  : Nat → Option Unit
  | 0 => none
  | n18151+1 =>
    some ()
def F12_v2 (k : Nat) (x18134 : Int) (x18135 : Int) : Option Unit :=
  (F12_v2_2 k  k).bind fun y18148 =>
  F12_v2_1 k y18148
theorem ct_F12_v2 (k : Nat) (x18134 : Int) (x18135 : Int) (r : Unit) (h0 : F12_v2 k x18134 x18135 = some r) : CTd Try.prog 12 [.pt 1000000 0, vI .i64 x18134] [(1000000, .bx 59 [.t (.sc (.slice none 0 0)), vI .u32 x18135])] (.t (.sc (.slice none 0 0))) (upd (emptyS) 1000000 (some (some (.bx 59 [.t (.sc (.slice none 0 0)), vI .u32 x18135])))) := by
  refine CTd.of_tr Try.f12 Try.func12 (by kernel_rfl) ?_
  unfold F12_v2 at h0
  refine Tr.conv (Conv.normT (keep := [0, 1]) (ρ := [(1000000, 1000000)]) ⟨upd (upd (deadT) 1 (vI .i64 x18134)) 0 (.pt 1000000 0), upd (emptyS) 1000000 (some (some (.bx 59 [.t (.sc (.slice none 0 0)), vI .u32 x18135]))), 30, [1000000]⟩ (by kernel_rfl)) ?_
  refine Tr.seqN (by kernel_rfl) ?_
  refine Tr.regionN (by kernel_rfl) ?_
  refine TrAt.goS good 2 [(3, .pt 3 0), (4, .t (.sc (.slice none 0 0)))] [(3, .bx 3 [vI .i64 x18134])] (by kernel_rfl) ?_
  refine TrAt.end_ (by kernel_rfl) ?_
  refine thenQ_n ?_
  refine Tr.seqN (by kernel_rfl) ?_
  refine Tr.regionN (by kernel_rfl) ?_
  refine TrAt.goS good 1 [(5, .t (.sc (.slice none 0 0)))] [] (by kernel_rfl) ?_
  refine TrAt.end_ (by kernel_rfl) ?_
  refine thenQ_n ?_
  refine Tr.seqN (by kernel_rfl) ?_
  refine Tr.seqN (by kernel_rfl) ?_
  refine Tr.regionN (by kernel_rfl) ?_
  refine TrAt.goS good 2 [(8, .pt 1000000 0), (9, vB true)] [] (by kernel_rfl) ?_
  refine TrAt.end_ (by kernel_rfl) ?_
  refine thenQ_n ?_
  refine Tr.condT (by kernel_rfl) (by kernel_rfl) ?_
  refine Tr.seqN (by kernel_rfl) ?_
  refine Tr.regionN (by kernel_rfl) ?_
  refine TrAt.goS good 6 [(10, .pt 1000000 0), (11, .pt 1000000 0), (12, .pt 1000000 0), (13, .t (.sc (.slice none 0 0))), (14, vI .i64 0), (15, vI .i64 0)] [] (by kernel_rfl) ?_
  refine TrAt.end_ (by kernel_rfl) ?_
  refine thenQ_n ?_
  refine Tr.blockN (by kernel_rfl) ?_
  obtain ⟨y18148, h18149, h0⟩ := bind_out h0
  refine Tr.conv (Conv.normT (keep := [3, 5, 13, 14, 15]) (ρ := [(1000000, 1000000), (3, 300000)]) ⟨upd (upd (upd (upd (upd (deadT) 15 (vI .i64 0)) 14 (vI .i64 0)) 13 (.t (.sc (.slice none 0 0)))) 5 (.t (.sc (.slice none 0 0)))) 3 (.pt 300000 0), upd (upd (emptyS) 300000 (some (some (.bx 3 [vI .i64 x18134])))) 1000000 (some (some (.bx 59 [.t (.sc (.slice none 0 0)), vI .u32 x18135]))), 30, [1000000]⟩ (by kernel_rfl)) ?_
  refine Tr.exJoin 0 (fun st => st = ⟨upd (deadT) 5 (.t (.sc (.slice none 0 0))), upd (emptyS) 1000000 (some (some (.bx 59 [.t (.sc (.slice none 0 0)), vI .u32 x18135]))), 30, [1000000]⟩) ?_ ?_
  · rintro st rfl
    have h0 : F12_v2_1 k y18148 = some r := h0
    unfold F12_v2_1 at h0
    refine inBlockQ_hit (by kernel_rfl) ?_
    refine thenQ_n ?_
    refine Tr.seqN (by kernel_rfl) ?_
    refine Tr.regionN (by kernel_rfl) ?_
    refine TrAt.goS good 2 [(29, .t (.sc (.slice none 0 0))), (4, .t (.sc (.slice none 0 0)))] [] (by kernel_rfl) ?_
    refine TrAt.end_ (by kernel_rfl) ?_
    refine thenQ_n ?_
    refine Tr.conv (Conv.normT (keep := [4]) (ρ := [(1000000, 1000000)]) ⟨upd (deadT) 4 (.t (.sc (.slice none 0 0))), upd (emptyS) 1000000 (some (some (.bx 59 [.t (.sc (.slice none 0 0)), vI .u32 x18135]))), 30, [1000000]⟩ (by kernel_rfl)) ?_
    refine Tr.retN (by kernel_rfl) ?_
    cases h0
    exact finQ_r (by kernel_rfl) (by kernel_rfl)
  refine Tr.loopN (fun n st => F12_v2_2 k  n = some y18148 ∧ st = ⟨upd (upd (upd (upd (upd (deadT) 15 (vI .i64 0)) 14 (vI .i64 0)) 13 (.t (.sc (.slice none 0 0)))) 5 (.t (.sc (.slice none 0 0)))) 3 (.pt 300000 0), upd (upd (emptyS) 300000 (some (some (.bx 3 [vI .i64 x18134])))) 1000000 (some (some (.bx 59 [.t (.sc (.slice none 0 0)), vI .u32 x18135]))), 30, [1000000]⟩) k (by kernel_rfl) ⟨h18149, rfl⟩ ?_
  rintro n18151 st ⟨h18150, rfl⟩
  cases n18151 with
  | zero => exact nomatch (show (none : Option Unit) = some y18148 from h18150)
  | succ n18151 =>
    unfold F12_v2_2 at h18150
    refine Tr.seqN (by kernel_rfl) ?_
    refine Tr.regionN (by kernel_rfl) ?_
    refine TrAt.goS good 1 [(16, vB false)] [] (by kernel_rfl) ?_
    refine TrAt.end_ (by kernel_rfl) ?_
    refine thenQ_n ?_
    refine Tr.seqN (by kernel_rfl) ?_
    refine Tr.condF (by kernel_rfl) (by kernel_rfl) ?_
    refine Tr.conv (Conv.normT (keep := [5]) (ρ := [(1000000, 1000000)]) ⟨upd (deadT) 5 (.t (.sc (.slice none 0 0))), upd (emptyS) 1000000 (some (some (.bx 59 [.t (.sc (.slice none 0 0)), vI .u32 x18135]))), 30, [1000000]⟩ (by kernel_rfl)) ?_
    refine Tr.exitN (by kernel_rfl) ?_
    refine thenQ_x ?_
    refine loopQ_x ?_
    refine exQ_hit (by kernel_rfl) ?_
    cases h18150
    rfl
def F22_1 (k : Nat) (y18168 : Unit) : Option Unit :=
  some ()
def F22_2 (k : Nat)  : Nat → Option Unit
  | 0 => none
  | n18171+1 =>
    some ()
def F22 (k : Nat) (x18154 : Int) (x18155 : Int) : Option Unit :=
  (F22_2 k  k).bind fun y18168 =>
  F22_1 k y18168
theorem ct_F22 (k : Nat) (x18154 : Int) (x18155 : Int) (r : Unit) (h0 : F22 k x18154 x18155 = some r) : CTd Try.prog 22 [.pt 1000000 0, vI .i64 x18154] [(1000000, .bx 46 [.t (.sc (.slice none 0 0)), vI .u32 x18155])] (.t (.sc (.slice none 0 0))) (upd (emptyS) 1000000 (some (some (.bx 46 [.t (.sc (.slice none 0 0)), vI .u32 x18155])))) := by
  refine CTd.of_tr Try.f22 Try.func22 (by kernel_rfl) ?_
  unfold F22 at h0
  refine Tr.conv (Conv.normT (keep := [0, 1]) (ρ := [(1000000, 1000000)]) ⟨upd (upd (deadT) 1 (vI .i64 x18154)) 0 (.pt 1000000 0), upd (emptyS) 1000000 (some (some (.bx 46 [.t (.sc (.slice none 0 0)), vI .u32 x18155]))), 58, [1000000]⟩ (by kernel_rfl)) ?_
  refine Tr.seqN (by kernel_rfl) ?_
  refine Tr.regionN (by kernel_rfl) ?_
  refine TrAt.goS good 1 [(4, .t (.sc (.slice none 0 0)))] [] (by kernel_rfl) ?_
  refine TrAt.end_ (by kernel_rfl) ?_
  refine thenQ_n ?_
  refine Tr.seqN (by kernel_rfl) ?_
  refine Tr.regionN (by kernel_rfl) ?_
  refine TrAt.goS good 1 [(5, .t (.sc (.slice none 0 0)))] [] (by kernel_rfl) ?_
  refine TrAt.end_ (by kernel_rfl) ?_
  refine thenQ_n ?_
  refine Tr.seqN (by kernel_rfl) ?_
  refine Tr.seqN (by kernel_rfl) ?_
  refine Tr.regionN (by kernel_rfl) ?_
  refine TrAt.goS good 1 [(6, vI .i64 0)] [] (by kernel_rfl) ?_
  refine TrAt.end_ (by kernel_rfl) ?_
  refine thenQ_n ?_
  refine Tr.blockN (by kernel_rfl) ?_
  obtain ⟨y18168, h18169, h0⟩ := bind_out h0
  refine Tr.conv (Conv.normT (keep := [0, 1, 5, 6]) (ρ := [(1000000, 1000000)]) ⟨upd (upd (upd (upd (deadT) 6 (vI .i64 0)) 5 (.t (.sc (.slice none 0 0)))) 1 (vI .i64 x18154)) 0 (.pt 1000000 0), upd (emptyS) 1000000 (some (some (.bx 46 [.t (.sc (.slice none 0 0)), vI .u32 x18155]))), 58, [1000000]⟩ (by kernel_rfl)) ?_
  refine Tr.exJoin 0 (fun st => st = ⟨upd (deadT) 5 (.t (.sc (.slice none 0 0))), upd (emptyS) 1000000 (some (some (.bx 46 [.t (.sc (.slice none 0 0)), vI .u32 x18155]))), 58, [1000000]⟩) ?_ ?_
  · rintro st rfl
    have h0 : F22_1 k y18168 = some r := h0
    unfold F22_1 at h0
    refine inBlockQ_hit (by kernel_rfl) ?_
    refine thenQ_n ?_
    refine Tr.seqN (by kernel_rfl) ?_
    refine Tr.regionN (by kernel_rfl) ?_
    refine TrAt.goS good 2 [(57, .t (.sc (.slice none 0 0))), (4, .t (.sc (.slice none 0 0)))] [] (by kernel_rfl) ?_
    refine TrAt.end_ (by kernel_rfl) ?_
    refine thenQ_n ?_
    refine Tr.conv (Conv.normT (keep := [4]) (ρ := [(1000000, 1000000)]) ⟨upd (deadT) 4 (.t (.sc (.slice none 0 0))), upd (emptyS) 1000000 (some (some (.bx 46 [.t (.sc (.slice none 0 0)), vI .u32 x18155]))), 58, [1000000]⟩ (by kernel_rfl)) ?_
    refine Tr.retN (by kernel_rfl) ?_
    cases h0
    exact finQ_r (by kernel_rfl) (by kernel_rfl)
  refine Tr.loopN (fun n st => F22_2 k  n = some y18168 ∧ st = ⟨upd (upd (upd (upd (deadT) 6 (vI .i64 0)) 5 (.t (.sc (.slice none 0 0)))) 1 (vI .i64 x18154)) 0 (.pt 1000000 0), upd (emptyS) 1000000 (some (some (.bx 46 [.t (.sc (.slice none 0 0)), vI .u32 x18155]))), 58, [1000000]⟩) k (by kernel_rfl) ⟨h18169, rfl⟩ ?_
  rintro n18171 st ⟨h18170, rfl⟩
  cases n18171 with
  | zero => exact nomatch (show (none : Option Unit) = some y18168 from h18170)
  | succ n18171 =>
    unfold F22_2 at h18170
    refine Tr.seqN (by kernel_rfl) ?_
    refine Tr.seqN (by kernel_rfl) ?_
    refine Tr.regionN (by kernel_rfl) ?_
    refine TrAt.goS good 7 [(9, vI .i64 0), (10, .pt 1000000 0), (11, .pt 1000000 0), (12, .pt 1000000 0), (13, .t (.sc (.slice none 0 0))), (14, vI .i64 0), (15, vB false)] [] (by kernel_rfl) ?_
    refine TrAt.end_ (by kernel_rfl) ?_
    refine thenQ_n ?_
    refine Tr.condF (by kernel_rfl) (by kernel_rfl) ?_
    refine Tr.conv (Conv.normT (keep := [5]) (ρ := [(1000000, 1000000)]) ⟨upd (deadT) 5 (.t (.sc (.slice none 0 0))), upd (emptyS) 1000000 (some (some (.bx 46 [.t (.sc (.slice none 0 0)), vI .u32 x18155]))), 58, [1000000]⟩ (by kernel_rfl)) ?_
    refine Tr.exitN (by kernel_rfl) ?_
    refine thenQ_x ?_
    refine loopQ_x ?_
    refine exQ_hit (by kernel_rfl) ?_
    cases h18170
    rfl
def F11_1 (k : Nat) (y18186 : Unit) : Option Unit :=
  some ()
def F11_2 (k : Nat)  : Nat → Option Unit
  | 0 => none
  | n18189+1 =>
    some ()
def F11 (k : Nat)  : Option Unit :=
  (F11_2 k  k).bind fun y18186 =>
  F11_1 k y18186
theorem ct_F11 (k : Nat)  (r : Unit) (h0 : F11 k = some r) : CTd Try.prog 11 [.t (.sc (.slice none 0 0)), .t (.sc (.slice none 0 0))] [] (vB true) (emptyS) := by
  refine CTd.of_tr Try.f11 Try.func11 (by kernel_rfl) ?_
  unfold F11 at h0
  refine Tr.conv (Conv.normT (keep := [0, 1]) (ρ := []) ⟨upd (upd (deadT) 1 (.t (.sc (.slice none 0 0)))) 0 (.t (.sc (.slice none 0 0))), emptyS, 26, []⟩ (by kernel_rfl)) ?_
  refine Tr.seqN (by kernel_rfl) ?_
  refine Tr.regionN (by kernel_rfl) ?_
  refine TrAt.goS good 1 [(4, vB false)] [] (by kernel_rfl) ?_
  refine TrAt.end_ (by kernel_rfl) ?_
  refine thenQ_n ?_
  refine Tr.seqN (by kernel_rfl) ?_
  refine Tr.seqN (by kernel_rfl) ?_
  refine Tr.regionN (by kernel_rfl) ?_
  refine TrAt.goS good 5 [(6, .t (.sc (.slice none 0 0))), (7, vI .i64 0), (8, .t (.sc (.slice none 0 0))), (9, vI .i64 0), (10, vB false)] [] (by kernel_rfl) ?_
  refine TrAt.end_ (by kernel_rfl) ?_
  refine thenQ_n ?_
  refine Tr.condF (by kernel_rfl) (by kernel_rfl) ?_
  refine Tr.skipN (by kernel_rfl) ?_
  refine thenQ_n ?_
  refine Tr.seqN (by kernel_rfl) ?_
  refine Tr.seqN (by kernel_rfl) ?_
  refine Tr.regionN (by kernel_rfl) ?_
  refine TrAt.goS good 1 [(5, vI .i64 0)] [] (by kernel_rfl) ?_
  refine TrAt.end_ (by kernel_rfl) ?_
  refine thenQ_n ?_
  refine Tr.blockN (by kernel_rfl) ?_
  obtain ⟨y18186, h18187, h0⟩ := bind_out h0
  refine Tr.conv (Conv.normT (keep := [0, 1, 5]) (ρ := []) ⟨upd (upd (upd (deadT) 5 (vI .i64 0)) 1 (.t (.sc (.slice none 0 0)))) 0 (.t (.sc (.slice none 0 0))), emptyS, 26, []⟩ (by kernel_rfl)) ?_
  refine Tr.exJoin 0 (fun st => st = ⟨deadT, emptyS, 26, []⟩) ?_ ?_
  · rintro st rfl
    have h0 : F11_1 k y18186 = some r := h0
    unfold F11_1 at h0
    refine inBlockQ_hit (by kernel_rfl) ?_
    refine thenQ_n ?_
    refine Tr.seqN (by kernel_rfl) ?_
    refine Tr.regionN (by kernel_rfl) ?_
    refine TrAt.goS good 1 [(4, vB true)] [] (by kernel_rfl) ?_
    refine TrAt.end_ (by kernel_rfl) ?_
    refine thenQ_n ?_
    refine Tr.conv (Conv.normT (keep := [4]) (ρ := []) ⟨upd (deadT) 4 (vB true), emptyS, 26, []⟩ (by kernel_rfl)) ?_
    refine Tr.retN (by kernel_rfl) ?_
    cases h0
    exact finQ_r (by kernel_rfl) (by kernel_rfl)
  refine Tr.loopN (fun n st => F11_2 k  n = some y18186 ∧ st = ⟨upd (upd (upd (deadT) 5 (vI .i64 0)) 1 (.t (.sc (.slice none 0 0)))) 0 (.t (.sc (.slice none 0 0))), emptyS, 26, []⟩) k (by kernel_rfl) ⟨h18187, rfl⟩ ?_
  rintro n18189 st ⟨h18188, rfl⟩
  cases n18189 with
  | zero => exact nomatch (show (none : Option Unit) = some y18186 from h18188)
  | succ n18189 =>
    unfold F11_2 at h18188
    refine Tr.seqN (by kernel_rfl) ?_
    refine Tr.seqN (by kernel_rfl) ?_
    refine Tr.regionN (by kernel_rfl) ?_
    refine TrAt.goS good 4 [(11, vI .i64 0), (12, .t (.sc (.slice none 0 0))), (13, vI .i64 0), (14, vB false)] [] (by kernel_rfl) ?_
    refine TrAt.end_ (by kernel_rfl) ?_
    refine thenQ_n ?_
    refine Tr.condF (by kernel_rfl) (by kernel_rfl) ?_
    refine Tr.conv (Conv.normT (keep := []) (ρ := []) ⟨deadT, emptyS, 26, []⟩ (by kernel_rfl)) ?_
    refine Tr.exitN (by kernel_rfl) ?_
    refine thenQ_x ?_
    refine loopQ_x ?_
    refine exQ_hit (by kernel_rfl) ?_
    cases h18188
    rfl
def F30_v3 (k : Nat) (x18226 : (List E50)) : Option (List E50) :=
  cond (Nat.beq (x18226.map en50).length 0) (some []) (grd (decide ((([] : List E50).length + x18226.length) * 16 ≤ 140737488355328)) <|
  some (([] : List E50) ++ x18226))
theorem ct_F30_v3 (k : Nat) (x18226 : (List E50)) (r : (List E50)) (h0 : F30_v3 k x18226 = some r) : CTd Try.prog 30 [.sl .n 1000000] [(1000000, .ar 50 2 (x18226.map en50))] (.sl .u 500000) (upd (upd (emptyS) 500000 (some (some (.ar 50 2 (r.map en50))))) 1000000 (some (some (.ar 50 2 (x18226.map en50))))) := by
  refine CTd.of_tr Try.f30 Try.func30 (by kernel_rfl) ?_
  unfold F30_v3 at h0
  refine Tr.conv (Conv.normT (keep := [0]) (ρ := [(1000000, 1000000)]) ⟨upd (deadT) 0 (.sl .n 1000000), upd (emptyS) 1000000 (some (some (.ar 50 2 (x18226.map en50)))), 8, [1000000]⟩ (by kernel_rfl)) ?_
  refine Tr.seqN (by kernel_rfl) ?_
  refine Tr.regionN (by kernel_rfl) ?_
  refine TrAt.goS good 1 [(2, .t (.sc (.slice none 0 0)))] [] (by kernel_rfl) ?_
  refine TrAt.end_ (by kernel_rfl) ?_
  refine thenQ_n ?_
  refine Tr.seqN (by kernel_rfl) ?_
  refine Tr.seqN (by kernel_rfl) ?_
  refine Tr.regionN (by kernel_rfl) ?_
  refine TrAt.goS good 2 [(3, .sl .n 1000000), (4, vB (Nat.beq (x18226.map en50).length 0))] [] (by kernel_rfl) ?_
  refine TrAt.end_ (by kernel_rfl) ?_
  refine thenQ_n ?_
  refine Tr.condN (Nat.beq (x18226.map en50).length 0) (by kernel_rfl) (by kernel_rfl) ?_ ?_
  · intro g18232
    have h0 := cond_t g18232 h0
    refine Tr.seqN (by kernel_rfl) ?_
    refine Tr.regionN (by kernel_rfl) ?_
    refine TrAt.goS good 1 [(2, .t (.sc (.slice none 0 0)))] [] (by kernel_rfl) ?_
    refine TrAt.end_ (by kernel_rfl) ?_
    refine thenQ_n ?_
    refine Tr.conv (Conv.nilSl 2 200108 50 2 (by kernel_rfl) (by kernel_rfl) (by kernel_rfl)) ?_
    refine Tr.conv (Conv.weak 2 (.sl .n 200108) (.sl .u 200108) (by kernel_rfl) (.sl _ _)) ?_
    refine Tr.conv (Conv.normT (keep := [2]) (ρ := [(1000000, 1000000), (200108, 500000)]) ⟨upd (deadT) 2 (.sl .u 500000), upd (upd (emptyS) 500000 (some (some (.ar 50 2 (([]).map en50))))) 1000000 (some (some (.ar 50 2 (x18226.map en50)))), 8, [1000000]⟩ (by kernel_rfl)) ?_
    refine Tr.retN (by kernel_rfl) ?_
    refine thenQ_r ?_
    cases h0
    exact finQ_r (by kernel_rfl) (by kernel_rfl)
  · intro g18232
    have h0 := cond_f g18232 h0
    refine Tr.skipN (by kernel_rfl) ?_
    refine thenQ_n ?_
    refine Tr.seqN (by kernel_rfl) ?_
    refine Tr.regionN (by kernel_rfl) ?_
    refine TrAt.lawP 5 _ _ (by kernel_rfl) (by kernel_rfl) (by kernel_rfl) (by kernel_rfl) (bsP_ok good (t := 33) (e := 50) (d := 5) (len := 0) (parts := #[]) (rows := (([] : List E50)).map en50) (by kernel_rfl) (by kernel_rfl) (by kernel_rfl) (by kernel_rfl) (by kernel_rfl) (by kernel_rfl)) ?_
    refine TrAt.goS good 1 [(6, .sl .n 1000000)] [] (by kernel_rfl) ?_
    obtain ⟨g18233, h0⟩ := grd_out h0
    refine TrAt.lawP 7 _ _ (by kernel_rfl) (by kernel_rfl) (by kernel_rfl) (by kernel_rfl) (apP_ok good (x := .tmp 5) (y := .tmp 6) (t := 33) (e := 50) (d := 7) (nl := .e) (enc := en50) (xs := ([] : List E50)) (ys := x18226) (oo := (some 5)) (bz := 16) (by kernel_rfl) (by kernel_rfl) (by kernel_rfl) (by kernel_rfl) (by kernel_rfl) (by kernel_rfl) wide50 (by kernel_rfl) g18233) ?_
    refine TrAt.goS good 1 [(2, .sl .e 7)] [] (by kernel_rfl) ?_
    refine TrAt.end_ (by kernel_rfl) ?_
    refine thenQ_n ?_
    refine Tr.conv (Conv.weak 2 (.sl .e 7) (.sl .u 7) (by kernel_rfl) (.sl _ _)) ?_
    refine Tr.conv (Conv.normT (keep := [2]) (ρ := [(1000000, 1000000), (7, 500000)]) ⟨upd (deadT) 2 (.sl .u 500000), upd (upd (emptyS) 500000 (some (some (.ar 50 2 ((([] : List E50) ++ x18226).map en50))))) 1000000 (some (some (.ar 50 2 (x18226.map en50)))), 8, [1000000]⟩ (by kernel_rfl)) ?_
    refine Tr.retN (by kernel_rfl) ?_
    cases h0
    exact finQ_r (by kernel_rfl) (by kernel_rfl)
def F26_v3 (k : Nat) (x18223 : Int) (x18224 : Int) (x18225 : (List E50)) : Option (List E50) :=
  (F30_v3 k x18225).bind fun y18239 =>
  some y18239
theorem ct_F26_v3 (k : Nat) (x18223 : Int) (x18224 : Int) (x18225 : (List E50)) (r : (List E50)) (h0 : F26_v3 k x18223 x18224 x18225 = some r) : CTd Try.prog 26 [.ag [vI .u32 x18223, vI .u32 x18224, .sl .n 1000000]] [(1000000, .ar 50 2 (x18225.map en50))] (.ag [vI .u32 x18223, vI .u32 x18224, .t (.fz .u (r.map en50))]) (upd (upd (emptyS) 500000 (some (some (.bx 35 [vI .u32 x18223, vI .u32 x18224, .t (.fz .u (r.map en50))])))) 1000000 (some (some (.ar 50 2 (x18225.map en50))))) := by
  refine CTd.of_tr Try.f26 Try.func26 (by kernel_rfl) ?_
  unfold F26_v3 at h0
  refine Tr.conv (Conv.normT (keep := [0]) (ρ := [(1000000, 1000000)]) ⟨upd (deadT) 0 (.ag [vI .u32 x18223, vI .u32 x18224, .sl .n 1000000]), upd (emptyS) 1000000 (some (some (.ar 50 2 (x18225.map en50)))), 8, [1000000]⟩ (by kernel_rfl)) ?_
  refine Tr.seqN (by kernel_rfl) ?_
  refine Tr.regionN (by kernel_rfl) ?_
  refine TrAt.goS good 2 [(1, .pt 1 0), (2, .pt 2 0)] [(1, .bx 35 [vI .u32 x18223, vI .u32 x18224, .sl .n 1000000]), (2, .bx 35 [vI .u32 0, vI .u32 0, .t (.sc (.slice none 0 0))])] (by kernel_rfl) ?_
  refine TrAt.end_ (by kernel_rfl) ?_
  refine thenQ_n ?_
  refine Tr.seqN (by kernel_rfl) ?_
  refine Tr.regionN (by kernel_rfl) ?_
  refine TrAt.goS good 2 [(3, .pt 1 2), (4, .sl .n 1000000)] [] (by kernel_rfl) ?_
  obtain ⟨y18239, h18240, h0⟩ := bind_out h0
  refine TrAt.callD (caps := []) 5 (.sl .u 400100) [(1000000, 1000000)] [(500000, 400100)] (.func 30) #[.tmp 4] #[33] (ct_F30_v3 k x18225 y18239 h18240) Try.func30 (by kernel_rfl) (by kernel_rfl) (by kernel_rfl) (by kernel_rfl) (by kernel_rfl) (by kernel_rfl) (by kernel_rfl) (by kernel_rfl) (by kernel_rfl) (by kernel_rfl) (by kernel_rfl) (by kernel_rfl) (by kernel_rfl) (by kernel_rfl) (by kernel_rfl) ?_
  refine TrAt.goS good 2 [(6, .pt 1 2)] [(1, .bx 35 [vI .u32 x18223, vI .u32 x18224, .sl .u 400100])] (by kernel_rfl) ?_
  refine TrAt.end_ (by kernel_rfl) ?_
  refine thenQ_n ?_
  refine Tr.seqN (by kernel_rfl) ?_
  refine Tr.regionN (by kernel_rfl) ?_
  refine TrAt.goS good 2 [(7, .ag [vI .u32 x18223, vI .u32 x18224, .sl .u 400100])] [(2, .bx 35 [vI .u32 x18223, vI .u32 x18224, .sl .u 400100])] (by kernel_rfl) ?_
  refine TrAt.end_ (by kernel_rfl) ?_
  refine thenQ_n ?_
  refine Tr.conv (Conv.freezeP 400100 50 2 (y18239.map en50) (by kernel_rfl)) ?_
  refine Tr.conv (Conv.normT (keep := [2]) (ρ := [(1000000, 1000000), (2, 500000)]) ⟨upd (deadT) 2 (.pt 500000 0), upd (upd (emptyS) 500000 (some (some (.bx 35 [vI .u32 x18223, vI .u32 x18224, .t (.fz .u (y18239.map en50))])))) 1000000 (some (some (.ar 50 2 (x18225.map en50)))), 8, [1000000]⟩ (by kernel_rfl)) ?_
  refine Tr.retN (by kernel_rfl) ?_
  cases h0
  exact finQ_r (by kernel_rfl) (by kernel_rfl)
def F14_v8_1 (k : Nat) (x18207 : Int) (x18208 : Int) (x18209 : Int) (x18210 : (List E50)) (y18251 : Bool) : Option (Int × Int × (List E35)) :=
  cond y18251 (some (1, x18209, [])) (cond (decide (x18207 ≤ x18209)) (some (7, x18209, [])) ((F26_v3 k x18207 x18208 x18210).bind fun y18254 =>
  grd (decide ((([] : List E35).length + ([(E35.mk x18207 x18208 y18254)]).length) * 32 ≤ 140737488355328)) <|
  some (0, x18207, (([] : List E35) ++ ([(E35.mk x18207 x18208 y18254)])))))
def F14_v8 (k : Nat) (x18207 : Int) (x18208 : Int) (x18209 : Int) (x18210 : (List E50)) : Option (Int × Int × (List E35)) :=
  cond (x18207 == 0) (F14_v8_1 k x18207 x18208 x18209 x18210 true) (F14_v8_1 k x18207 x18208 x18209 x18210 ((x18210.length : Int) == 0))
theorem ct_F14_v8 (k : Nat) (x18207 : Int) (x18208 : Int) (x18209 : Int) (x18210 : (List E50)) (r : (Int × Int × (List E35))) (h0 : F14_v8 k x18207 x18208 x18209 x18210 = some r) : CTd Try.prog 14 [.pt 1000000 0, .ag [vI .u32 x18207, vI .u32 x18208, .sl .n 1000001]] [(1000000, .bx 59 [.t (.sc (.slice none 0 0)), vI .u32 x18209]), (1000001, .ar 50 2 (x18210.map en50))] (vI .i64 r.1) (upd (upd (upd (emptyS) 500000 (some (some (.ar 35 3 (r.2.2.map en35))))) 1000001 (some (some (.ar 50 2 (x18210.map en50))))) 1000000 (some (some (.bx 59 [.sl .n 500000, vI .u32 r.2.1])))) := by
  refine CTd.of_tr Try.f14 Try.func14 (by kernel_rfl) ?_
  unfold F14_v8 at h0
  refine Tr.conv (Conv.normT (keep := [0, 1]) (ρ := [(1000000, 1000000), (1000001, 1000001)]) ⟨upd (upd (deadT) 1 (.ag [vI .u32 x18207, vI .u32 x18208, .sl .n 1000001])) 0 (.pt 1000000 0), upd (upd (emptyS) 1000001 (some (some (.ar 50 2 (x18210.map en50))))) 1000000 (some (some (.bx 59 [.t (.sc (.slice none 0 0)), vI .u32 x18209]))), 43, [1000000, 1000001]⟩ (by kernel_rfl)) ?_
  refine Tr.seqN (by kernel_rfl) ?_
  refine Tr.regionN (by kernel_rfl) ?_
  refine TrAt.goS good 2 [(3, .pt 3 0), (4, vI .i64 0)] [(3, .bx 35 [vI .u32 x18207, vI .u32 x18208, .sl .n 1000001])] (by kernel_rfl) ?_
  refine TrAt.end_ (by kernel_rfl) ?_
  refine thenQ_n ?_
  refine Tr.seqN (by kernel_rfl) ?_
  refine Tr.blockN (by kernel_rfl) ?_
  refine Tr.seqI (fun st => ∃ y18251, F14_v8_1 k x18207 x18208 x18209 x18210 y18251 = some r ∧ st = ⟨upd (upd (upd (deadT) 5 (vB y18251)) 3 (.pt 300000 0)) 0 (.pt 1000000 0), upd (upd (upd (emptyS) 300000 (some (some (.bx 35 [vI .u32 x18207, vI .u32 x18208, .sl .n 1000001])))) 1000001 (some (some (.ar 50 2 (x18210.map en50))))) 1000000 (some (some (.bx 59 [.t (.sc (.slice none 0 0)), vI .u32 x18209]))), 43, [1000000, 1000001]⟩) (by kernel_rfl) ?_ ?_
  · refine Tr.regionN (by kernel_rfl) ?_
    refine TrAt.goS good 8 [(6, .pt 1000000 0), (7, vB false), (8, vB false), (9, .pt 3 0), (10, vI .u32 x18207), (11, vB (x18207 == 0)), (12, vB (x18207 == 0)), (13, vB (x18207 == 0))] [] (by kernel_rfl) ?_
    cases g18257 : ((x18207 == 0) : Bool) with
    | true =>
      have h0 := cond_t g18257 h0
      refine TrAt.goS good 6 [(14, .tp []), (15, .tp []), (16, .tp []), (17, .tp []), (18, vB true), (5, vB true)] [] (by kernel_rfl) ?_
      refine TrAt.conv (Conv.normT (keep := [0, 3, 5]) (ρ := [(1000000, 1000000), (1000001, 1000001), (3, 300000)]) ⟨upd (upd (upd (deadT) 5 (vB true)) 3 (.pt 300000 0)) 0 (.pt 1000000 0), upd (upd (upd (emptyS) 300000 (some (some (.bx 35 [vI .u32 x18207, vI .u32 x18208, .sl .n 1000001])))) 1000001 (some (some (.ar 50 2 (x18210.map en50))))) 1000000 (some (some (.bx 59 [.t (.sc (.slice none 0 0)), vI .u32 x18209]))), 43, [1000000, 1000001]⟩ (by kernel_rfl)) ?_
      refine TrAt.end_ (by kernel_rfl) ?_
      refine thenI_n ?_
      exact ⟨true, h0, rfl⟩
    | false =>
      have h0 := cond_f g18257 h0
      refine TrAt.goS good 2 [(14, .pt 3 2), (15, .sl .n 1000001)] [] (by kernel_rfl) ?_
      refine TrAt.lawP 16 _ _ (by kernel_rfl) (by kernel_rfl) (by kernel_rfl) (by kernel_rfl) (lenSl_ok good (t := 33) (e := 50) (x := .tmp 15) (nl := .n) (enc := en50) (xs := x18210) (nm := 1000001) (e' := 50) (sz := 2) (by kernel_rfl) (by kernel_rfl) (by kernel_rfl) (by kernel_rfl)) ?_
      refine TrAt.goS good 3 [(17, vB ((x18210.length : Int) == 0)), (18, vB ((x18210.length : Int) == 0)), (5, vB ((x18210.length : Int) == 0))] [] (by kernel_rfl) ?_
      refine TrAt.conv (Conv.normT (keep := [0, 3, 5]) (ρ := [(1000000, 1000000), (1000001, 1000001), (3, 300000)]) ⟨upd (upd (upd (deadT) 5 (vB ((x18210.length : Int) == 0))) 3 (.pt 300000 0)) 0 (.pt 1000000 0), upd (upd (upd (emptyS) 300000 (some (some (.bx 35 [vI .u32 x18207, vI .u32 x18208, .sl .n 1000001])))) 1000001 (some (some (.ar 50 2 (x18210.map en50))))) 1000000 (some (some (.bx 59 [.t (.sc (.slice none 0 0)), vI .u32 x18209]))), 43, [1000000, 1000001]⟩ (by kernel_rfl)) ?_
      refine TrAt.end_ (by kernel_rfl) ?_
      refine thenI_n ?_
      exact ⟨((x18210.length : Int) == 0), h0, rfl⟩
  · rintro st ⟨y18251, h0, rfl⟩
    unfold F14_v8_1 at h0
    refine Tr.condN y18251 (by kernel_rfl) (by kernel_rfl) ?_ ?_
    · intro g18252
      have h0 := cond_t g18252 h0
      refine Tr.seqN (by kernel_rfl) ?_
      refine Tr.regionN (by kernel_rfl) ?_
      refine TrAt.goS good 1 [(4, vI .i64 1)] [] (by kernel_rfl) ?_
      refine TrAt.end_ (by kernel_rfl) ?_
      refine thenQ_n ?_
      refine Tr.conv (Conv.nilBox 1000000 59 [.t (.sc (.slice none 0 0)), vI .u32 x18209] 0 200109 35 3 (by kernel_rfl) (by kernel_rfl) (by kernel_rfl) (by kernel_rfl)) ?_
      refine Tr.conv (Conv.normT (keep := [4]) (ρ := [(1000000, 1000000), (1000001, 1000001), (200109, 500000)]) ⟨upd (deadT) 4 (vI .i64 1), upd (upd (upd (emptyS) 500000 (some (some (.ar 35 3 (([]).map en35))))) 1000001 (some (some (.ar 50 2 (x18210.map en50))))) 1000000 (some (some (.bx 59 [.sl .n 500000, vI .u32 x18209]))), 43, [1000000, 1000001]⟩ (by kernel_rfl)) ?_
      refine Tr.retN (by kernel_rfl) ?_
      refine inBlockQ_r ?_
      refine thenQ_r ?_
      cases h0
      exact finQ_r (by kernel_rfl) (by kernel_rfl)
    · intro g18252
      have h0 := cond_f g18252 h0
      refine Tr.seqN (by kernel_rfl) ?_
      refine Tr.draws ⟨upd (upd (upd (deadT) 19 (vB (decide (x18207 ≤ x18209)))) 3 (.pt 300000 0)) 0 (.pt 1000000 0), upd (upd (upd (emptyS) 300000 (some (some (.bx 35 [vI .u32 x18207, vI .u32 x18208, .sl .n 1000001])))) 1000001 (some (some (.ar 50 2 (x18210.map en50))))) 1000000 (some (some (.bx 59 [.t (.sc (.slice none 0 0)), vI .u32 x18209]))), 43, [1000000, 1000001]⟩ [.pt 300000 0, vI .u32 x18207, .pt 1000000 0, .pt 1000000 0, .pt 1000000 1, vI .u32 x18209, vB (decide (x18207 ≤ x18209)), vB (decide (x18207 ≤ x18209))] [] [] [(0, 0), (1, 0), (2, 0), (3, 0), (4, 0), (5, 0), (6, 0), (7, 0)] (by kernel_rfl) (by kernel_rfl) (by kernel_rfl) ⟨OpLaw.step good (by kernel_rfl), OpLaw.step good (by kernel_rfl), OpLaw.step good (by kernel_rfl), OpLaw.step good (by kernel_rfl), OpLaw.step good (by kernel_rfl), OpLaw.step good (by kernel_rfl), OpLaw.step good (by kernel_rfl), OpLaw.step good (by kernel_rfl), trivial⟩ (Conv.normT (keep := [0, 3, 19]) (ρ := [(1000000, 1000000), (1000001, 1000001), (300000, 300000)]) ⟨upd (upd (upd (deadT) 19 (vB (decide (x18207 ≤ x18209)))) 3 (.pt 300000 0)) 0 (.pt 1000000 0), upd (upd (upd (emptyS) 300000 (some (some (.bx 35 [vI .u32 x18207, vI .u32 x18208, .sl .n 1000001])))) 1000001 (some (some (.ar 50 2 (x18210.map en50))))) 1000000 (some (some (.bx 59 [.t (.sc (.slice none 0 0)), vI .u32 x18209]))), 43, [1000000, 1000001]⟩ (by kernel_rfl)) ?_
      refine thenQ_n ?_
      refine Tr.condN (decide (x18207 ≤ x18209)) (by kernel_rfl) (by kernel_rfl) ?_ ?_
      · intro g18253
        have h0 := cond_t g18253 h0
        refine Tr.seqN (by kernel_rfl) ?_
        refine Tr.regionN (by kernel_rfl) ?_
        refine TrAt.goS good 1 [(4, vI .i64 7)] [] (by kernel_rfl) ?_
        refine TrAt.end_ (by kernel_rfl) ?_
        refine thenQ_n ?_
        refine Tr.conv (Conv.nilBox 1000000 59 [.t (.sc (.slice none 0 0)), vI .u32 x18209] 0 200110 35 3 (by kernel_rfl) (by kernel_rfl) (by kernel_rfl) (by kernel_rfl)) ?_
        refine Tr.conv (Conv.normT (keep := [4]) (ρ := [(1000000, 1000000), (1000001, 1000001), (200110, 500000)]) ⟨upd (deadT) 4 (vI .i64 7), upd (upd (upd (emptyS) 500000 (some (some (.ar 35 3 (([]).map en35))))) 1000001 (some (some (.ar 50 2 (x18210.map en50))))) 1000000 (some (some (.bx 59 [.sl .n 500000, vI .u32 x18209]))), 43, [1000000, 1000001]⟩ (by kernel_rfl)) ?_
        refine Tr.retN (by kernel_rfl) ?_
        refine inBlockQ_r ?_
        refine thenQ_r ?_
        cases h0
        exact finQ_r (by kernel_rfl) (by kernel_rfl)
      · intro g18253
        have h0 := cond_f g18253 h0
        refine Tr.skipN (by kernel_rfl) ?_
        refine inBlockQ_n ?_
        refine thenQ_n ?_
        refine Tr.seqN (by kernel_rfl) ?_
        obtain ⟨y18254, h18255, h0⟩ := bind_out h0
        obtain ⟨g18256, h0⟩ := grd_out h0
        refine Tr.draws ⟨deadT, upd (upd (upd (emptyS) 300000 (some (some (.ar 35 3 ((([] : List E35) ++ ([(E35.mk x18207 x18208 y18254)])).map en35))))) 1000001 (some (some (.ar 50 2 (x18210.map en50))))) 1000000 (some (some (.bx 59 [.sl .n 300000, vI .u32 x18207]))), 43, [1000000, 1000001]⟩ [.pt 1000000 0, .pt 1000000 0, .pt 1000000 0, .pt 1000000 0, .pt 1000000 0, .t (.sc (.slice none 0 0)), .ag [vI .u32 x18207, vI .u32 x18208, .sl .n 1000001], .ag [vI .u32 x18207, vI .u32 x18208, .t (.fz .u (y18254.map en50))], .sl .e 35, .sl .n 36, .pt 300000 0, vI .u32 x18207, .pt 1000000 0, .pt 1000000 0, .tp [], .pt 1000000 0, .pt 1000000 1, .tp []] [fun s => backS [(1000000, 1000001), (500000, 400680)] (upd (upd (emptyS) 500000 (some (some (.bx 35 [vI .u32 x18207, vI .u32 x18208, .t (.fz .u (y18254.map en50))])))) 1000000 (some (some (.ar 50 2 (x18210.map en50))))) s, fun s => upd s 35 (some (some (.ar 35 3 (([(E35.mk x18207 x18208 y18254)]).map en35)))), fun s => upd (killS s none) 36 (some (some (.ar 35 3 ((([] : List E35) ++ ([(E35.mk x18207 x18208 y18254)])).map en35)))), fun s => upd s 1000000 (some (some (.bx 59 [.sl .n 36, vI .u32 x18209]))), fun s => upd s 1000000 (some (some (.bx 59 [.sl .n 36, vI .u32 x18207])))] [7, 8, 9, 14, 17] [(0, 0), (0, 1), (0, 2), (0, 3), (1, 0), (1, 1), (1, 2), (1, 3), (1, 4), (2, 0), (2, 1), (2, 2), (2, 3), (3, 0), (3, 1), (3, 2), (3, 3), (4, 0), (4, 1), (4, 2), (4, 3), (5, 0), (5, 1), (5, 2), (6, 0), (7, 0), (8, 1), (9, 2), (10, 0), (10, 1), (10, 2), (10, 3), (10, 4), (11, 0), (11, 1), (11, 2), (11, 3), (11, 4), (12, 3), (12, 4), (13, 3), (14, 3), (15, 4), (15, 5), (16, 4), (17, 4)] (by kernel_rfl) (by kernel_rfl) (by kernel_rfl) ⟨OpLaw.step good (by kernel_rfl), OpLaw.step good (by kernel_rfl), OpLaw.step good (by kernel_rfl), OpLaw.step good (by kernel_rfl), OpLaw.step good (by kernel_rfl), OpLaw.step good (by kernel_rfl), OpLaw.step good (by kernel_rfl), OpLaw.step good (by kernel_rfl), OpLaw.step good (by kernel_rfl), OpLaw.step good (by kernel_rfl), OpLaw.step good (by kernel_rfl), OpLaw.step good (by kernel_rfl), OpLaw.step good (by kernel_rfl), OpLaw.step good (by kernel_rfl), OpLaw.step good (by kernel_rfl), OpLaw.step good (by kernel_rfl), OpLaw.step good (by kernel_rfl), OpLaw.step good (by kernel_rfl), OpLaw.step good (by kernel_rfl), OpLaw.step good (by kernel_rfl), OpLaw.step good (by kernel_rfl), OpLaw.step good (by kernel_rfl), OpLaw.step good (by kernel_rfl), OpLaw.step good (by kernel_rfl), OpLaw.step good (by kernel_rfl), OpLaw.callD (caps := []) [(1000000, 1000001)] [(500000, 400680)] (.func 26) #[.tmp 33] #[35] (ct_F26_v3 k x18207 x18208 x18210 y18254 h18255) Try.func26 (by kernel_rfl) (by kernel_rfl) (by kernel_rfl) (by kernel_rfl) (by kernel_rfl) (by kernel_rfl) (by kernel_rfl) (by kernel_rfl) (by kernel_rfl) (by kernel_rfl) (by kernel_rfl) (by kernel_rfl) (by kernel_rfl), OpLaw.ok (v' := .sl .e 35) (by kernel_rfl) (by kernel_rfl) (by kernel_rfl) (bsP_ok good (t := 44) (e := 35) (d := 35) (len := 1) (parts := #[(0, .tmp 34)]) (rows := ([(E35.mk x18207 x18208 y18254)]).map en35) (by kernel_rfl) (by kernel_rfl) (by kernel_rfl) (by kernel_rfl) (by kernel_rfl) (by kernel_rfl)), OpLaw.ok (v' := .sl .n 36) (by kernel_rfl) (by kernel_rfl) (by kernel_rfl) (apP_ok good (x := .tmp 32) (y := .tmp 35) (t := 44) (e := 35) (d := 36) (nl := .n) (enc := en35) (xs := ([] : List E35)) (ys := [(E35.mk x18207 x18208 y18254)]) (oo := none) (bz := 32) (by kernel_rfl) (by kernel_rfl) (by kernel_rfl) (by kernel_rfl) (by kernel_rfl) (by kernel_rfl) wide35 (by kernel_rfl) g18256), OpLaw.step good (by kernel_rfl), OpLaw.step good (by kernel_rfl), OpLaw.step good (by kernel_rfl), OpLaw.step good (by kernel_rfl), OpLaw.step good (by kernel_rfl), OpLaw.step good (by kernel_rfl), OpLaw.step good (by kernel_rfl), OpLaw.step good (by kernel_rfl), OpLaw.step good (by kernel_rfl), OpLaw.step good (by kernel_rfl), OpLaw.step good (by kernel_rfl), OpLaw.step good (by kernel_rfl), OpLaw.step good (by kernel_rfl), OpLaw.step good (by kernel_rfl), OpLaw.step good (by kernel_rfl), OpLaw.step good (by kernel_rfl), OpLaw.step good (by kernel_rfl), OpLaw.step good (by kernel_rfl), trivial⟩ (Conv.normT (keep := []) (ρ := [(1000000, 1000000), (1000001, 1000001), (36, 300000)]) ⟨deadT, upd (upd (upd (emptyS) 300000 (some (some (.ar 35 3 ((([] : List E35) ++ ([(E35.mk x18207 x18208 y18254)])).map en35))))) 1000001 (some (some (.ar 50 2 (x18210.map en50))))) 1000000 (some (some (.bx 59 [.sl .n 300000, vI .u32 x18207]))), 43, [1000000, 1000001]⟩ (by kernel_rfl)) ?_
        refine thenQ_n ?_
        refine Tr.seqN (by kernel_rfl) ?_
        refine Tr.regionN (by kernel_rfl) ?_
        refine TrAt.goS good 1 [(4, vI .i64 0)] [] (by kernel_rfl) ?_
        refine TrAt.end_ (by kernel_rfl) ?_
        refine thenQ_n ?_
        refine Tr.conv (Conv.normT (keep := [4]) (ρ := [(1000000, 1000000), (1000001, 1000001), (300000, 500000)]) ⟨upd (deadT) 4 (vI .i64 0), upd (upd (upd (emptyS) 500000 (some (some (.ar 35 3 ((([] : List E35) ++ ([(E35.mk x18207 x18208 y18254)])).map en35))))) 1000001 (some (some (.ar 50 2 (x18210.map en50))))) 1000000 (some (some (.bx 59 [.sl .n 500000, vI .u32 x18207]))), 43, [1000000, 1000001]⟩ (by kernel_rfl)) ?_
        refine Tr.retN (by kernel_rfl) ?_
        cases h0
        exact finQ_r (by kernel_rfl) (by kernel_rfl)
end Go.Proofs.Ytljbepjbecjpiaa.N

/- What the functions compute, natively, and that they do. Printed by a program (wip/xg). -/
import Derived.Test.YtnjkfchgakpjgaaMc4
import Derived.Test.YtnjkfchgakpjgaaProg
namespace Go.Proofs.Ytnjkfchgakpjgaa.N
open Go Go.RowKit Go.Proofs.Ytnjkfchgakpjgaa.Mc Go.Proofs
set_option maxRecDepth 100000
set_option maxHeartbeats 0
set_option linter.unusedVariables false
noncomputable abbrev D := decOf Try.prog
theorem good : Go.Proofs.Ytnjkfchgakpjgaa.Mc.Good Try.prog D := good_of _
theorem mixed : Try.prog.follows .mixedOrders = true := by kernel_rfl
def rowsL : List (Nat × Row) := [(30, (.str .nil)), (36, (.str (.int .u32 (.int .u32 .nil)))), (41, (.str (.bool (.str .nil))))]
variable [Mo]
noncomputable def F4 (k : Nat) (x1 : ByteArray) : Option (ByteArray × Int × Int × Bool) :=
some (ByteArray.empty, 0, 0, false)
def A4 : CTpl := ⟨[.c (.pointer none), .s], []⟩
def h4 : List HTy := [.ts]
def R4 : List RTpl := [⟨.tp [.ag [.s, .i .u32, .i .u32], .b], [], [.ts, .ti, .ti, .tb]⟩]
def n4 : An := .nd
theorem e4 (k : Nat) (y : Tup h4) : exec (P := Try.prog) D (lk rowsL) [] k (bodyOf Try.f4) n4 (fnE Try.f4 A4 [] (inOf A4 (ofTup h4 y))) (fnSt [] (inOf A4 (ofTup h4 y))) (leafR D (fnE Try.f4 A4 [] (inOf A4 (ofTup h4 y))) Try.f4.results.toList (R4.map (·.h)) R4) = F4 k y := by kernel_rfl
noncomputable def C4 (k : Nat) : Con Try.prog := ⟨4, Try.f4, Try.func4, by kernel_rfl, by kernel_rfl, A4, h4, [], R4, fun y => F4 k y, fun y r h => con_ok good mixed (c := bodyOf Try.f4) Try.func4 (by kernel_rfl) n4 y ((e4 k y).trans h)⟩
noncomputable def F11 (k : Nat) : Option (List (ByteArray × (ByteArray × Int × Int))) :=
some ([] : List (ByteArray × (ByteArray × Int × Int)))
def A11 : CTpl := ⟨[], []⟩
def h11 : List HTy := []
def R11 : List RTpl := [⟨.pt 500000 0, [(500000, .bx 38 [.mp 500001]), (500001, .mp ⟨.s, true, (.str (.int .u32 (.int .u32 .nil)))⟩)], [.tm ⟨.s, true, (.str (.int .u32 (.int .u32 .nil)))⟩]⟩]
def n11 : An := .nd
theorem e11 (k : Nat) (y : Tup h11) : exec (P := Try.prog) D (lk rowsL) [] k (bodyOf Try.f11) n11 (fnE Try.f11 A11 [] (inOf A11 (ofTup h11 y))) (fnSt [] (inOf A11 (ofTup h11 y))) (leafR D (fnE Try.f11 A11 [] (inOf A11 (ofTup h11 y))) Try.f11.results.toList (R11.map (·.h)) R11) = F11 k := by kernel_rfl
noncomputable def C11 (k : Nat) : Con Try.prog := ⟨11, Try.f11, Try.func11, by kernel_rfl, by kernel_rfl, A11, h11, [], R11, fun y => F11 k, fun y r h => con_ok good mixed (c := bodyOf Try.f11) Try.func11 (by kernel_rfl) n11 y ((e11 k y).trans h)⟩
noncomputable def L13_8 (k : Nat) (x1 : (List ByteArray)) (z8 : (Int × (List (ByteArray × Bool × ByteArray)))) : Option ((Int × (List (ByteArray × Bool × ByteArray))) ⊕ (List (ByteArray × Bool × ByteArray))) :=
cond (decide (z8.1 < (x1.length : Int))) (
(ix x1 z8.1).bind fun a9 =>
grd (decide ((z8.2.length + [(a9, false, (⟨#[118]⟩ : ByteArray))].length) * 40 ≤ 140737488355328)) <|
some (.inl ((IntKind.wrap .i64 (z8.1 + 1)), (z8.2 ++ [(a9, false, (⟨#[118]⟩ : ByteArray))])))) (
some (.inr z8.2))
noncomputable def F13 (k : Nat) (x1 : (List ByteArray)) : Option (List (ByteArray × Bool × ByteArray)) :=
(loopN (L13_8 k x1) k (0, ([] : List (ByteArray × Bool × ByteArray)))).bind fun y10 => 
some y10
def A13 : CTpl := ⟨[.fz .u (.str .nil)], []⟩
def h13 : List HTy := [.tl (.str .nil)]
def R13 : List RTpl := [⟨.sl .u 500000, [(500000, .ar 48 (.str (.bool (.str .nil))))], [.tl (.str (.bool (.str .nil)))]⟩]
def n13 : An := .sq (.nd) (.sq (.nd) (.sq (.sq (.nd) (.lp [0] [] ⟨[(3, .sl .n 300400), (4, .i .i64)], [(300400, .ar 48 (.str (.bool (.str .nil))))]⟩ [.ti, .tl (.str (.bool (.str .nil)))] [(2, ⟨[(3, .sl .n 300425)], [(300425, .ar 48 (.str (.bool (.str .nil))))]⟩)] [[.tl (.str (.bool (.str .nil)))]] (.nd))) (.nd)))
theorem e13 (k : Nat) (y : Tup h13) : exec (P := Try.prog) D (lk rowsL) [] k (bodyOf Try.f13) n13 (fnE Try.f13 A13 [] (inOf A13 (ofTup h13 y))) (fnSt [] (inOf A13 (ofTup h13 y))) (leafR D (fnE Try.f13 A13 [] (inOf A13 (ofTup h13 y))) Try.f13.results.toList (R13.map (·.h)) R13) = F13 k y := by kernel_rfl
noncomputable def C13 (k : Nat) : Con Try.prog := ⟨13, Try.f13, Try.func13, by kernel_rfl, by kernel_rfl, A13, h13, [], R13, fun y => F13 k y, fun y r h => con_ok good mixed (c := bodyOf Try.f13) Try.func13 (by kernel_rfl) n13 y ((e13 k y).trans h)⟩
noncomputable def L12_17 (k : Nat) (x1 : Int) (x3 : Int) (x4 : (List (ByteArray × Bool × ByteArray))) (z8 : (Int × (List (ByteArray × (ByteArray × Int × Int))))) : Option ((Int × (List (ByteArray × (ByteArray × Int × Int)))) ⊕ (List (ByteArray × (ByteArray × Int × Int)))) :=
cond (decide (z8.1 < (x4.length : Int))) (
(((ix x4 z8.1).bind fun a9 =>
cond a9.2.1 (
some (mdel sEq z8.2 a9.1)) (
some (mset sEq z8.2 a9.1 (a9.1, x1, x3))) : Option (List (ByteArray × (ByteArray × Int × Int))))).bind fun y10 => 
some (.inl ((IntKind.wrap .i64 (z8.1 + 1)), y10))) (
some (.inr z8.2))
noncomputable def F12 (k : Nat) (x1 : Int) (x2 : Int) (x3 : Int) (x4 : (List (ByteArray × Bool × ByteArray))) (x5 : (List (ByteArray × (ByteArray × Int × Int)))) : Option (List (ByteArray × (ByteArray × Int × Int))) :=
(loopN (L12_17 k x1 x3 x4) k (0, x5)).bind fun y11 => 
some y11
def A12 : CTpl := ⟨[.pt 1000000 0, .ag [.i .u32, .i .u32, .i .u32, .fz .u (.str (.bool (.str .nil)))]], [(1000000, .bx 38 [.mp 1000001]), (1000001, .mp ⟨.s, true, (.str (.int .u32 (.int .u32 .nil)))⟩)]⟩
def h12 : List HTy := [.ti, .ti, .ti, .tl (.str (.bool (.str .nil))), .tm ⟨.s, true, (.str (.int .u32 (.int .u32 .nil)))⟩]
def R12 : List RTpl := [⟨.tp [], [(1000001, .mp ⟨.s, true, (.str (.int .u32 (.int .u32 .nil)))⟩)], [.tm ⟨.s, true, (.str (.int .u32 (.int .u32 .nil)))⟩]⟩]
def n12 : An := .sq (.nd) (.sq (.nd) (.sq (.nd) (.sq (.nd) (.lp [0, 3, 18, 19] [3] ⟨[(20, .i .i64)], [(1000001, .mp ⟨.s, true, (.str (.int .u32 (.int .u32 .nil)))⟩)]⟩ [.ti, .tm ⟨.s, true, (.str (.int .u32 (.int .u32 .nil)))⟩] [(2, ⟨[], [(1000001, .mp ⟨.s, true, (.str (.int .u32 (.int .u32 .nil)))⟩)]⟩)] [[.tm ⟨.s, true, (.str (.int .u32 (.int .u32 .nil)))⟩]] (.sq (.nd) (.sq (.nd) (.jn [20] [] [(0, ⟨[], [(1000001, .mp ⟨.s, true, (.str (.int .u32 (.int .u32 .nil)))⟩)]⟩)] [[.tm ⟨.s, true, (.str (.int .u32 (.int .u32 .nil)))⟩]] (.sq (.nd) (.sq (.nd) (.sq (.mk [] [0, 1, 3, 7, 0, 16, 63]) (.mk [] [0, 1, 3, 7, 0, 16, 0, 64, 0, 256, 0, 1024, 4032, 8191])))) (.nd))))))))
theorem e12 (k : Nat) (y : Tup h12) : exec (P := Try.prog) D (lk rowsL) [] k (bodyOf Try.f12) n12 (fnE Try.f12 A12 [1000000] (inOf A12 (ofTup h12 y))) (fnSt [1000000] (inOf A12 (ofTup h12 y))) (leafR D (fnE Try.f12 A12 [1000000] (inOf A12 (ofTup h12 y))) Try.f12.results.toList (R12.map (·.h)) R12) = F12 k y.1 y.2.1 y.2.2.1 y.2.2.2.1 y.2.2.2.2 := by kernel_rfl
noncomputable def C12 (k : Nat) : Con Try.prog := ⟨12, Try.f12, Try.func12, by kernel_rfl, by kernel_rfl, A12, h12, [1000000], R12, fun y => F12 k y.1 y.2.1 y.2.2.1 y.2.2.2.1 y.2.2.2.2, fun y r h => con_ok good mixed (c := bodyOf Try.f12) Try.func12 (by kernel_rfl) n12 y ((e12 k y).trans h)⟩
noncomputable def F4_1 (k : Nat) (x1 : ByteArray) (x2 : (List (ByteArray × (ByteArray × Int × Int)))) : Option (ByteArray × Int × Int × Bool) :=
(some ((mget sEq x2 x1).getD (ByteArray.empty, 0, 0), (mget sEq x2 x1).isSome)).bind fun a1 =>
some (a1.1.1, a1.1.2.1, a1.1.2.2, a1.2)
def A4_1 : CTpl := ⟨[.pt 1000000 0, .s], [(1000000, .bx 38 [.mp 1000001]), (1000001, .mp ⟨.s, true, (.str (.int .u32 (.int .u32 .nil)))⟩)]⟩
def h4_1 : List HTy := [.ts, .tm ⟨.s, true, (.str (.int .u32 (.int .u32 .nil)))⟩]
def R4_1 : List RTpl := [⟨.tp [.ag [.s, .i .u32, .i .u32], .b], [], [.ts, .ti, .ti, .tb]⟩]
def n4_1 : An := .nd
theorem e4_1 (k : Nat) (y : Tup h4_1) : exec (P := Try.prog) D (lk rowsL) [] k (bodyOf Try.f4) n4_1 (fnE Try.f4 A4_1 [1000000, 1000001] (inOf A4_1 (ofTup h4_1 y))) (fnSt [1000000, 1000001] (inOf A4_1 (ofTup h4_1 y))) (leafR D (fnE Try.f4 A4_1 [1000000, 1000001] (inOf A4_1 (ofTup h4_1 y))) Try.f4.results.toList (R4_1.map (·.h)) R4_1) = F4_1 k y.1 y.2 := by kernel_rfl
noncomputable def C4_1 (k : Nat) : Con Try.prog := ⟨4, Try.f4, Try.func4, by kernel_rfl, by kernel_rfl, A4_1, h4_1, [1000000, 1000001], R4_1, fun y => F4_1 k y.1 y.2, fun y r h => con_ok good mixed (c := bodyOf Try.f4) Try.func4 (by kernel_rfl) n4_1 y ((e4_1 k y).trans h)⟩
noncomputable def F6 (k : Nat) (x1 : (List (ByteArray × (ByteArray × Int × Int)))) : Option Int :=
some (x1.length : Int)
def A6 : CTpl := ⟨[.pt 1000000 0], [(1000000, .bx 38 [.mp 1000001]), (1000001, .mp ⟨.s, true, (.str (.int .u32 (.int .u32 .nil)))⟩)]⟩
def h6 : List HTy := [.tm ⟨.s, true, (.str (.int .u32 (.int .u32 .nil)))⟩]
def R6 : List RTpl := [⟨.i .i64, [], [.ti]⟩]
def n6 : An := .nd
theorem e6 (k : Nat) (y : Tup h6) : exec (P := Try.prog) D (lk rowsL) [] k (bodyOf Try.f6) n6 (fnE Try.f6 A6 [1000000, 1000001] (inOf A6 (ofTup h6 y))) (fnSt [1000000, 1000001] (inOf A6 (ofTup h6 y))) (leafR D (fnE Try.f6 A6 [1000000, 1000001] (inOf A6 (ofTup h6 y))) Try.f6.results.toList (R6.map (·.h)) R6) = F6 k y := by kernel_rfl
noncomputable def C6 (k : Nat) : Con Try.prog := ⟨6, Try.f6, Try.func6, by kernel_rfl, by kernel_rfl, A6, h6, [1000000, 1000001], R6, fun y => F6 k y, fun y r h => con_ok good mixed (c := bodyOf Try.f6) Try.func6 (by kernel_rfl) n6 y ((e6 k y).trans h)⟩
noncomputable def L9_11 (k : Nat) (x1 : Int) {R : Type} (z11 : (Int × ((List (ByteArray × (ByteArray × Int × Int))) × (List (ByteArray × (ByteArray × Int × Int)))))) (Kin : (Int × ((List (ByteArray × (ByteArray × Int × Int))) × (List (ByteArray × (ByteArray × Int × Int))))) → Option R) (Kout : (Int × (List (ByteArray × (ByteArray × Int × Int)))) → Option R) : Option R :=
cond z11.2.2.isEmpty (
Kout (z11.1, z11.2.1)) (
anyL z11.2.2 fun j12 => fun a13 =>
cond (decide (a13.2.2.1 ≤ x1)) (
Kin ((mx z11.1 a13.2.2.2), (z11.2.1, (List.eraseIdx z11.2.2 j12)))) (
Kin (z11.1, (z11.2.1, (List.eraseIdx z11.2.2 j12)))))
noncomputable def F9 (k : Nat) (x1 : Int) (x2 : (List (ByteArray × (ByteArray × Int × Int)))) : Option (Int × (List (ByteArray × (ByteArray × Int × Int)))) :=
loopC (L9_11 k x1) k (0, (x2, x2)) fun y14 => 
some (y14.1, y14.2)
def A9 : CTpl := ⟨[.pt 1000000 0, .i .u32], [(1000000, .bx 38 [.mp 1000001]), (1000001, .mp ⟨.s, true, (.str (.int .u32 (.int .u32 .nil)))⟩)]⟩
def h9 : List HTy := [.ti, .tm ⟨.s, true, (.str (.int .u32 (.int .u32 .nil)))⟩]
def R9 : List RTpl := [⟨.i .u32, [(1000001, .mp ⟨.s, true, (.str (.int .u32 (.int .u32 .nil)))⟩)], [.ti, .tm ⟨.s, true, (.str (.int .u32 (.int .u32 .nil)))⟩]⟩]
def n9 : An := .sq (.nd) (.sq (.nd) (.sq (.sq (.nd) (.sq (.sq (.nd) (.lc [1, 14] [14] ⟨[(5, .i .u32)], [(1000001, .mq ⟨.s, true, (.str (.int .u32 (.int .u32 .nil)))⟩ 14)]⟩ [.ti, .tq ⟨.s, true, (.str (.int .u32 (.int .u32 .nil)))⟩] [(2, ⟨[(5, .i .u32)], [(1000001, .mp ⟨.s, true, (.str (.int .u32 (.int .u32 .nil)))⟩)]⟩)] [[.ti, .tm ⟨.s, true, (.str (.int .u32 (.int .u32 .nil)))⟩]] (.nd))) (.nd))) (.nd)))
theorem e9 (k : Nat) (y : Tup h9) : exec (P := Try.prog) D (lk rowsL) [] k (bodyOf Try.f9) n9 (fnE Try.f9 A9 [1000000] (inOf A9 (ofTup h9 y))) (fnSt [1000000] (inOf A9 (ofTup h9 y))) (leafR D (fnE Try.f9 A9 [1000000] (inOf A9 (ofTup h9 y))) Try.f9.results.toList (R9.map (·.h)) R9) = F9 k y.1 y.2 := by kernel_rfl
noncomputable def C9 (k : Nat) : Con Try.prog := ⟨9, Try.f9, Try.func9, by kernel_rfl, by kernel_rfl, A9, h9, [1000000], R9, fun y => F9 k y.1 y.2, fun y r h => con_ok good mixed (c := bodyOf Try.f9) Try.func9 (by kernel_rfl) n9 y ((e9 k y).trans h)⟩
noncomputable def F5 (k : Nat) : Option Bool :=
(F11 k).bind fun y2 => 
(F13 k [(⟨#[97]⟩ : ByteArray), (⟨#[98]⟩ : ByteArray)]).bind fun y5 => 
(F12 k 3 0 3 y5 y2).bind fun y6 => 
(F4_1 k (⟨#[97]⟩ : ByteArray) y6).bind fun y8 => 
(F6 k y6).bind fun y9 => 
cond (y9 == 2) (
cond y8.2.2.2 (
cond ((y8.1.toList == (⟨#[97]⟩ : ByteArray).toList) && ((y8.2.1 == 3) && ((y8.2.2.1 == 3) && true))) (
(F9 k 9 y6).bind fun y10 => 
some (y10.1 == 3)) (
some false)) (
some false)) (
some false)
def A5 : CTpl := ⟨[], []⟩
def h5 : List HTy := []
def R5 : List RTpl := [⟨.b, [], [.tb]⟩]
def n5 : An := .sq (.nd) (.sq (.nd) (.sq (.nd) (.sq (.fr [(2, 8), (4, 400900)]) (.nd))))
theorem e5 (k : Nat) (y : Tup h5) : exec (P := Try.prog) D (lk rowsL) [C11 k, C13 k, C12 k, C4_1 k, C6 k, C9 k] k (bodyOf Try.f5) n5 (fnE Try.f5 A5 [] (inOf A5 (ofTup h5 y))) (fnSt [] (inOf A5 (ofTup h5 y))) (leafR D (fnE Try.f5 A5 [] (inOf A5 (ofTup h5 y))) Try.f5.results.toList (R5.map (·.h)) R5) = F5 k := by kernel_rfl
noncomputable def C5 (k : Nat) : Con Try.prog := ⟨5, Try.f5, Try.func5, by kernel_rfl, by kernel_rfl, A5, h5, [], R5, fun y => F5 k, fun y r h => con_ok good mixed (c := bodyOf Try.f5) Try.func5 (by kernel_rfl) n5 y ((e5 k y).trans h)⟩
noncomputable def F6_1 (k : Nat) : Option Int :=
some 0
def A6_1 : CTpl := ⟨[.c (.pointer none)], []⟩
def h6_1 : List HTy := []
def R6_1 : List RTpl := [⟨.i .i64, [], [.ti]⟩]
def n6_1 : An := .nd
theorem e6_1 (k : Nat) (y : Tup h6_1) : exec (P := Try.prog) D (lk rowsL) [] k (bodyOf Try.f6) n6_1 (fnE Try.f6 A6_1 [] (inOf A6_1 (ofTup h6_1 y))) (fnSt [] (inOf A6_1 (ofTup h6_1 y))) (leafR D (fnE Try.f6 A6_1 [] (inOf A6_1 (ofTup h6_1 y))) Try.f6.results.toList (R6_1.map (·.h)) R6_1) = F6_1 k := by kernel_rfl
noncomputable def C6_1 (k : Nat) : Con Try.prog := ⟨6, Try.f6, Try.func6, by kernel_rfl, by kernel_rfl, A6_1, h6_1, [], R6_1, fun y => F6_1 k, fun y r h => con_ok good mixed (c := bodyOf Try.f6) Try.func6 (by kernel_rfl) n6_1 y ((e6_1 k y).trans h)⟩
noncomputable def F14 (k : Nat) : Option Unit :=
some ()
def A14 : CTpl := ⟨[.c (.pointer none), .c (.func (.func 15) #[] #[])], []⟩
def h14 : List HTy := []
def R14 : List RTpl := [⟨.c (.slice none 0 0), [], []⟩]
def n14 : An := .nd
theorem e14 (k : Nat) (y : Tup h14) : exec (P := Try.prog) D (lk rowsL) [] k (bodyOf Try.f14) n14 (fnE Try.f14 A14 [] (inOf A14 (ofTup h14 y))) (fnSt [] (inOf A14 (ofTup h14 y))) (leafR D (fnE Try.f14 A14 [] (inOf A14 (ofTup h14 y))) Try.f14.results.toList (R14.map (·.h)) R14) = F14 k := by kernel_rfl
noncomputable def C14 (k : Nat) : Con Try.prog := ⟨14, Try.f14, Try.func14, by kernel_rfl, by kernel_rfl, A14, h14, [], R14, fun y => F14 k, fun y r h => con_ok good mixed (c := bodyOf Try.f14) Try.func14 (by kernel_rfl) n14 y ((e14 k y).trans h)⟩
noncomputable def F7 (k : Nat) : Option Unit :=
(F14 k).bind fun y1 => 
some ()
def A7 : CTpl := ⟨[.c (.pointer none)], []⟩
def h7 : List HTy := []
def R7 : List RTpl := [⟨.c (.slice none 0 0), [], []⟩]
def n7 : An := .nd
theorem e7 (k : Nat) (y : Tup h7) : exec (P := Try.prog) D (lk rowsL) [C14 k] k (bodyOf Try.f7) n7 (fnE Try.f7 A7 [] (inOf A7 (ofTup h7 y))) (fnSt [] (inOf A7 (ofTup h7 y))) (leafR D (fnE Try.f7 A7 [] (inOf A7 (ofTup h7 y))) Try.f7.results.toList (R7.map (·.h)) R7) = F7 k := by kernel_rfl
noncomputable def C7 (k : Nat) : Con Try.prog := ⟨7, Try.f7, Try.func7, by kernel_rfl, by kernel_rfl, A7, h7, [], R7, fun y => F7 k, fun y r h => con_ok good mixed (c := bodyOf Try.f7) Try.func7 (by kernel_rfl) n7 y ((e7 k y).trans h)⟩
noncomputable def F14_1 (k : Nat) (x1 : Int) : Option Unit :=
some ()
def A14_1 : CTpl := ⟨[.c (.pointer none), .fn 16 [.pt 1000000 0]], [(1000000, .bx 22 [.i .u32])]⟩
def h14_1 : List HTy := [.ti]
def R14_1 : List RTpl := [⟨.c (.slice none 0 0), [], []⟩]
def n14_1 : An := .nd
theorem e14_1 (k : Nat) (y : Tup h14_1) : exec (P := Try.prog) D (lk rowsL) [] k (bodyOf Try.f14) n14_1 (fnE Try.f14 A14_1 [1000000] (inOf A14_1 (ofTup h14_1 y))) (fnSt [1000000] (inOf A14_1 (ofTup h14_1 y))) (leafR D (fnE Try.f14 A14_1 [1000000] (inOf A14_1 (ofTup h14_1 y))) Try.f14.results.toList (R14_1.map (·.h)) R14_1) = F14_1 k y := by kernel_rfl
noncomputable def C14_1 (k : Nat) : Con Try.prog := ⟨14, Try.f14, Try.func14, by kernel_rfl, by kernel_rfl, A14_1, h14_1, [1000000], R14_1, fun y => F14_1 k y, fun y r h => con_ok good mixed (c := bodyOf Try.f14) Try.func14 (by kernel_rfl) n14_1 y ((e14_1 k y).trans h)⟩
noncomputable def F8 (k : Nat) (x1 : Int) : Option Unit :=
(F14_1 k x1).bind fun y1 => 
some ()
def A8 : CTpl := ⟨[.c (.pointer none), .i .u32], []⟩
def h8 : List HTy := [.ti]
def R8 : List RTpl := [⟨.c (.slice none 0 0), [], []⟩]
def n8 : An := .nd
theorem e8 (k : Nat) (y : Tup h8) : exec (P := Try.prog) D (lk rowsL) [C14_1 k] k (bodyOf Try.f8) n8 (fnE Try.f8 A8 [] (inOf A8 (ofTup h8 y))) (fnSt [] (inOf A8 (ofTup h8 y))) (leafR D (fnE Try.f8 A8 [] (inOf A8 (ofTup h8 y))) Try.f8.results.toList (R8.map (·.h)) R8) = F8 k y := by kernel_rfl
noncomputable def C8 (k : Nat) : Con Try.prog := ⟨8, Try.f8, Try.func8, by kernel_rfl, by kernel_rfl, A8, h8, [], R8, fun y => F8 k y, fun y r h => con_ok good mixed (c := bodyOf Try.f8) Try.func8 (by kernel_rfl) n8 y ((e8 k y).trans h)⟩
noncomputable def F9_1 (k : Nat) (x1 : Int) : Option Int :=
some 0
def A9_1 : CTpl := ⟨[.c (.pointer none), .i .u32], []⟩
def h9_1 : List HTy := [.ti]
def R9_1 : List RTpl := [⟨.i .u32, [], [.ti]⟩]
def n9_1 : An := .nd
theorem e9_1 (k : Nat) (y : Tup h9_1) : exec (P := Try.prog) D (lk rowsL) [] k (bodyOf Try.f9) n9_1 (fnE Try.f9 A9_1 [] (inOf A9_1 (ofTup h9_1 y))) (fnSt [] (inOf A9_1 (ofTup h9_1 y))) (leafR D (fnE Try.f9 A9_1 [] (inOf A9_1 (ofTup h9_1 y))) Try.f9.results.toList (R9_1.map (·.h)) R9_1) = F9_1 k y := by kernel_rfl
noncomputable def C9_1 (k : Nat) : Con Try.prog := ⟨9, Try.f9, Try.func9, by kernel_rfl, by kernel_rfl, A9_1, h9_1, [], R9_1, fun y => F9_1 k y, fun y r h => con_ok good mixed (c := bodyOf Try.f9) Try.func9 (by kernel_rfl) n9_1 y ((e9_1 k y).trans h)⟩
noncomputable def F14_2 (k : Nat) (x1 : Int) (x2 : Int) : Option Unit :=
some ()
def A14_2 : CTpl := ⟨[.c (.pointer none), .fn 17 [.pt 1000000 0, .pt 1000001 0]], [(1000000, .bx 22 [.i .u32]), (1000001, .bx 22 [.i .u32])]⟩
def h14_2 : List HTy := [.ti, .ti]
def R14_2 : List RTpl := [⟨.c (.slice none 0 0), [], []⟩]
def n14_2 : An := .nd
theorem e14_2 (k : Nat) (y : Tup h14_2) : exec (P := Try.prog) D (lk rowsL) [] k (bodyOf Try.f14) n14_2 (fnE Try.f14 A14_2 [1000000, 1000001] (inOf A14_2 (ofTup h14_2 y))) (fnSt [1000000, 1000001] (inOf A14_2 (ofTup h14_2 y))) (leafR D (fnE Try.f14 A14_2 [1000000, 1000001] (inOf A14_2 (ofTup h14_2 y))) Try.f14.results.toList (R14_2.map (·.h)) R14_2) = F14_2 k y.1 y.2 := by kernel_rfl
noncomputable def C14_2 (k : Nat) : Con Try.prog := ⟨14, Try.f14, Try.func14, by kernel_rfl, by kernel_rfl, A14_2, h14_2, [1000000, 1000001], R14_2, fun y => F14_2 k y.1 y.2, fun y r h => con_ok good mixed (c := bodyOf Try.f14) Try.func14 (by kernel_rfl) n14_2 y ((e14_2 k y).trans h)⟩
noncomputable def L10_8 (k : Nat) (z5 : Unit) : Option (Unit ⊕ Unit) :=
some (.inr ())
noncomputable def F10 (k : Nat) (x1 : Int) (x2 : Int) : Option Unit :=
(F14_2 k x1 x2).bind fun y2 => 
(loopN (L10_8 k) k ()).bind fun y6 => 
some ()
def A10 : CTpl := ⟨[.c (.pointer none), .i .u32, .i .u32], []⟩
def h10 : List HTy := [.ti, .ti]
def R10 : List RTpl := [⟨.c (.slice none 0 0), [], []⟩]
def n10 : An := .sq (.nd) (.sq (.nd) (.sq (.sq (.nd) (.lp [0, 7, 13, 14] [] ⟨[(15, .li .i64 0)], []⟩ [] [(2, ⟨[], []⟩)] [[]] (.nd))) (.nd)))
theorem e10 (k : Nat) (y : Tup h10) : exec (P := Try.prog) D (lk rowsL) [C14_2 k] k (bodyOf Try.f10) n10 (fnE Try.f10 A10 [] (inOf A10 (ofTup h10 y))) (fnSt [] (inOf A10 (ofTup h10 y))) (leafR D (fnE Try.f10 A10 [] (inOf A10 (ofTup h10 y))) Try.f10.results.toList (R10.map (·.h)) R10) = F10 k y.1 y.2 := by kernel_rfl
noncomputable def C10 (k : Nat) : Con Try.prog := ⟨10, Try.f10, Try.func10, by kernel_rfl, by kernel_rfl, A10, h10, [], R10, fun y => F10 k y.1 y.2, fun y r h => con_ok good mixed (c := bodyOf Try.f10) Try.func10 (by kernel_rfl) n10 y ((e10 k y).trans h)⟩
noncomputable def F3 (k : Nat) (x1 : ByteArray) (x2 : Int) : Option Bool :=
(F4 k x1).bind fun y2 => 
(F5 k).bind fun y3 => 
cond y3 (
cond (!y2.2.2.2) (
(F6_1 k).bind fun y4 => 
cond (y4 == 0) (
(F7 k).bind fun y5 => 
(F8 k x2).bind fun y6 => 
(F9_1 k x2).bind fun y7 => 
cond (y7 == 0) (
(F10 k x2 x2).bind fun y8 => 
some true) (
some false)) (
some false)) (
some false)) (
some false)
def A3 : CTpl := ⟨[.s, .i .u32], []⟩
def h3 : List HTy := [.ts, .ti]
def R3 : List RTpl := [⟨.b, [], [.tb]⟩]
def n3 : An := .nd
theorem e3 (k : Nat) (y : Tup h3) : exec (P := Try.prog) D (lk rowsL) [C4 k, C5 k, C6_1 k, C7 k, C8 k, C9_1 k, C10 k] k (bodyOf Try.f3) n3 (fnE Try.f3 A3 [] (inOf A3 (ofTup h3 y))) (fnSt [] (inOf A3 (ofTup h3 y))) (leafR D (fnE Try.f3 A3 [] (inOf A3 (ofTup h3 y))) Try.f3.results.toList (R3.map (·.h)) R3) = F3 k y.1 y.2 := by kernel_rfl
noncomputable def C3 (k : Nat) : Con Try.prog := ⟨3, Try.f3, Try.func3, by kernel_rfl, by kernel_rfl, A3, h3, [], R3, fun y => F3 k y.1 y.2, fun y r h => con_ok good mixed (c := bodyOf Try.f3) Try.func3 (by kernel_rfl) n3 y ((e3 k y).trans h)⟩
end Go.Proofs.Ytnjkfchgakpjgaa.N

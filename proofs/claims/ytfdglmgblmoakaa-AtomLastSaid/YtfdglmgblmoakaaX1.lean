/- What the functions compute, natively, and that they do. Printed by a program (wip/xg). -/
import Derived.Test.YtfdglmgblmoakaaMc4
import Derived.Test.YtfdglmgblmoakaaProg
namespace Go.Proofs.Ytfdglmgblmoakaa.N
open Go Go.RowKit Go.Proofs.Ytfdglmgblmoakaa.Mc Go.Proofs
set_option maxRecDepth 100000
set_option maxHeartbeats 0
set_option linter.unusedVariables false
noncomputable abbrev D := decOf Try.prog
theorem good : Go.Proofs.Ytfdglmgblmoakaa.Mc.Good Try.prog D := good_of _
theorem mixed : Try.prog.follows .mixedOrders = true := by kernel_rfl
def rowsL : List (Nat × Row) := [(29, (.str (.bool (.str .nil)))), (36, (.str (.bool (.str (.int .u32 .nil))))), (38, (.str .nil)), (43, (.str (.bool (.str (.int .u32 .nil)))))]
variable [Mo]
noncomputable def F5 (k : Nat) : Option (List (ByteArray × (ByteArray × Bool × ByteArray × Int))) :=
some ([] : List (ByteArray × (ByteArray × Bool × ByteArray × Int)))
def A5 : CTpl := ⟨[], []⟩
def h5 : List HTy := []
def R5 : List RTpl := [⟨.pt 500000 0, [(500000, .bx 45 [.mp 500001]), (500001, .mp ⟨.s, true, (.str (.bool (.str (.int .u32 .nil))))⟩)], [.tm ⟨.s, true, (.str (.bool (.str (.int .u32 .nil))))⟩]⟩]
def n5 : An := .nd
theorem e5 (k : Nat) (y : Tup h5) : exec (P := Try.prog) D (lk rowsL) [] k (bodyOf Try.f5) n5 (fnE Try.f5 A5 [] (inOf A5 (ofTup h5 y))) (fnSt [] (inOf A5 (ofTup h5 y))) (leafR D (fnE Try.f5 A5 [] (inOf A5 (ofTup h5 y))) Try.f5.results.toList (R5.map (·.h)) R5) = F5 k := by kernel_rfl
noncomputable def C5 (k : Nat) : Con Try.prog := ⟨5, Try.f5, Try.func5, by kernel_rfl, by kernel_rfl, A5, h5, [], R5, fun y => F5 k, fun y r h => con_ok good mixed (c := bodyOf Try.f5) Try.func5 (by kernel_rfl) n5 y ((e5 k y).trans h)⟩
noncomputable def L8_15 (k : Nat) (x1 : Int) (x2 : (List (ByteArray × Bool × ByteArray))) (z8 : (Int × (List (ByteArray × (ByteArray × Bool × ByteArray × Int))))) : Option ((Int × (List (ByteArray × (ByteArray × Bool × ByteArray × Int)))) ⊕ (List (ByteArray × (ByteArray × Bool × ByteArray × Int)))) :=
cond (decide (z8.1 < (x2.length : Int))) (
(((ix x2 z8.1).bind fun a9 =>
cond a9.2.1 (
some (mdel sEq z8.2 a9.1)) (
some (mset sEq z8.2 a9.1 (a9.1, true, a9.2.2, x1))) : Option (List (ByteArray × (ByteArray × Bool × ByteArray × Int))))).bind fun y10 => 
some (.inl ((IntKind.wrap .i64 (z8.1 + 1)), y10))) (
some (.inr z8.2))
noncomputable def F8 (k : Nat) (x1 : Int) (x2 : (List (ByteArray × Bool × ByteArray))) (x3 : (List (ByteArray × (ByteArray × Bool × ByteArray × Int)))) : Option (List (ByteArray × (ByteArray × Bool × ByteArray × Int))) :=
(loopN (L8_15 k x1 x2) k (0, x3)).bind fun y11 => 
some y11
def A8 : CTpl := ⟨[.pt 1000000 0, .i .u32, .fz .u (.str (.bool (.str .nil)))], [(1000000, .bx 45 [.mp 1000001]), (1000001, .mp ⟨.s, true, (.str (.bool (.str (.int .u32 .nil))))⟩)]⟩
def h8 : List HTy := [.ti, .tl (.str (.bool (.str .nil))), .tm ⟨.s, true, (.str (.bool (.str (.int .u32 .nil))))⟩]
def R8 : List RTpl := [⟨.tp [], [(1000001, .mp ⟨.s, true, (.str (.bool (.str (.int .u32 .nil))))⟩)], [.tm ⟨.s, true, (.str (.bool (.str (.int .u32 .nil))))⟩]⟩]
def n8 : An := .sq (.nd) (.sq (.nd) (.sq (.nd) (.lp [0, 1, 19, 20] [] ⟨[(21, .i .i64)], [(1000001, .mp ⟨.s, true, (.str (.bool (.str (.int .u32 .nil))))⟩)]⟩ [.ti, .tm ⟨.s, true, (.str (.bool (.str (.int .u32 .nil))))⟩] [(2, ⟨[], [(1000001, .mp ⟨.s, true, (.str (.bool (.str (.int .u32 .nil))))⟩)]⟩)] [[.tm ⟨.s, true, (.str (.bool (.str (.int .u32 .nil))))⟩]] (.sq (.nd) (.sq (.nd) (.jn [21] [] [(0, ⟨[], [(1000001, .mp ⟨.s, true, (.str (.bool (.str (.int .u32 .nil))))⟩)]⟩)] [[.tm ⟨.s, true, (.str (.bool (.str (.int .u32 .nil))))⟩]] (.sq (.nd) (.sq (.nd) (.sq (.mk [] [0, 1, 3, 7, 0, 16, 63]) (.mk [] [0, 1, 3, 7, 0, 16, 0, 64, 0, 256, 0, 1984, 4095])))) (.nd)))))))
theorem e8 (k : Nat) (y : Tup h8) : exec (P := Try.prog) D (lk rowsL) [] k (bodyOf Try.f8) n8 (fnE Try.f8 A8 [1000000] (inOf A8 (ofTup h8 y))) (fnSt [1000000] (inOf A8 (ofTup h8 y))) (leafR D (fnE Try.f8 A8 [1000000] (inOf A8 (ofTup h8 y))) Try.f8.results.toList (R8.map (·.h)) R8) = F8 k y.1 y.2.1 y.2.2 := by kernel_rfl
noncomputable def C8 (k : Nat) : Con Try.prog := ⟨8, Try.f8, Try.func8, by kernel_rfl, by kernel_rfl, A8, h8, [1000000], R8, fun y => F8 k y.1 y.2.1 y.2.2, fun y r h => con_ok good mixed (c := bodyOf Try.f8) Try.func8 (by kernel_rfl) n8 y ((e8 k y).trans h)⟩
noncomputable def L11_6 (k : Nat) (x1 : (List ByteArray)) (z6 : (Int × (List (ByteArray × (ByteArray × Bool × ByteArray × Int))))) : Option ((Int × (List (ByteArray × (ByteArray × Bool × ByteArray × Int)))) ⊕ (List (ByteArray × (ByteArray × Bool × ByteArray × Int)))) :=
cond (decide (z6.1 < (x1.length : Int))) (
(ix x1 z6.1).bind fun a7 =>
some (.inl ((IntKind.wrap .i64 (z6.1 + 1)), (mdel sEq z6.2 a7)))) (
some (.inr z6.2))
noncomputable def F11 (k : Nat) (x1 : (List ByteArray)) (x2 : (List (ByteArray × (ByteArray × Bool × ByteArray × Int)))) : Option (List (ByteArray × (ByteArray × Bool × ByteArray × Int))) :=
(loopN (L11_6 k x1) k (0, x2)).bind fun y8 => 
some y8
def A11 : CTpl := ⟨[.pt 1000000 0, .fz .u (.str .nil)], [(1000000, .bx 45 [.mp 1000001]), (1000001, .mp ⟨.s, true, (.str (.bool (.str (.int .u32 .nil))))⟩)]⟩
def h11 : List HTy := [.tl (.str .nil), .tm ⟨.s, true, (.str (.bool (.str (.int .u32 .nil))))⟩]
def R11 : List RTpl := [⟨.tp [], [(1000001, .mp ⟨.s, true, (.str (.bool (.str (.int .u32 .nil))))⟩)], [.tm ⟨.s, true, (.str (.bool (.str (.int .u32 .nil))))⟩]⟩]
def n11 : An := .sq (.nd) (.sq (.sq (.nd) (.lp [0, 8, 9] [] ⟨[(10, .i .i64)], [(1000001, .mp ⟨.s, true, (.str (.bool (.str (.int .u32 .nil))))⟩)]⟩ [.ti, .tm ⟨.s, true, (.str (.bool (.str (.int .u32 .nil))))⟩] [(2, ⟨[], [(1000001, .mp ⟨.s, true, (.str (.bool (.str (.int .u32 .nil))))⟩)]⟩)] [[.tm ⟨.s, true, (.str (.bool (.str (.int .u32 .nil))))⟩]] (.nd))) (.nd))
theorem e11 (k : Nat) (y : Tup h11) : exec (P := Try.prog) D (lk rowsL) [] k (bodyOf Try.f11) n11 (fnE Try.f11 A11 [1000000] (inOf A11 (ofTup h11 y))) (fnSt [1000000] (inOf A11 (ofTup h11 y))) (leafR D (fnE Try.f11 A11 [1000000] (inOf A11 (ofTup h11 y))) Try.f11.results.toList (R11.map (·.h)) R11) = F11 k y.1 y.2 := by kernel_rfl
noncomputable def C11 (k : Nat) : Con Try.prog := ⟨11, Try.f11, Try.func11, by kernel_rfl, by kernel_rfl, A11, h11, [1000000], R11, fun y => F11 k y.1 y.2, fun y r h => con_ok good mixed (c := bodyOf Try.f11) Try.func11 (by kernel_rfl) n11 y ((e11 k y).trans h)⟩
noncomputable def L10_16 (k : Nat) (x1 : (List ByteArray)) (x2 : (List (ByteArray × (ByteArray × Bool × ByteArray × Int)))) (z13 : (Int × (List (ByteArray × Bool × ByteArray × Int)))) : Option ((Int × (List (ByteArray × Bool × ByteArray × Int))) ⊕ (List (ByteArray × Bool × ByteArray × Int))) :=
cond (decide (z13.1 < (x1.length : Int))) (
(ix x1 z13.1).bind fun a14 =>
(some ((mget sEq x2 a14).getD (ByteArray.empty, false, ByteArray.empty, 0), (mget sEq x2 a14).isSome)).bind fun a15 =>
grd (decide ((z13.2.length + [(a14, a15.1.2.1, a15.1.2.2.1, a15.1.2.2.2)].length) * 48 ≤ 140737488355328)) <|
some (.inl ((IntKind.wrap .i64 (z13.1 + 1)), (z13.2 ++ [(a14, a15.1.2.1, a15.1.2.2.1, a15.1.2.2.2)])))) (
some (.inr z13.2))
noncomputable def F10 (k : Nat) (x1 : (List ByteArray)) (x2 : (List (ByteArray × (ByteArray × Bool × ByteArray × Int)))) : Option (List (ByteArray × Bool × ByteArray × Int)) :=
(loopN (L10_16 k x1 x2) k (0, ([] : List (ByteArray × Bool × ByteArray × Int)))).bind fun y16 => 
some y16
def A10 : CTpl := ⟨[.pt 1000000 0, .fz .u (.str .nil)], [(1000000, .bx 45 [.mp 1000001]), (1000001, .mp ⟨.s, true, (.str (.bool (.str (.int .u32 .nil))))⟩)]⟩
def h10 : List HTy := [.tl (.str .nil), .tm ⟨.s, true, (.str (.bool (.str (.int .u32 .nil))))⟩]
def R10 : List RTpl := [⟨.sl .u 500000, [(500000, .ar 28 (.str (.bool (.str (.int .u32 .nil)))))], [.tl (.str (.bool (.str (.int .u32 .nil))))]⟩]
def n10 : An := .sq (.nd) (.sq (.nd) (.sq (.nd) (.sq (.sq (.nd) (.lp [0, 11, 12] [] ⟨[(5, .sl .n 300800), (13, .i .i64)], [(300800, .ar 28 (.str (.bool (.str (.int .u32 .nil)))))]⟩ [.ti, .tl (.str (.bool (.str (.int .u32 .nil))))] [(2, ⟨[(5, .sl .n 300825)], [(300825, .ar 28 (.str (.bool (.str (.int .u32 .nil)))))]⟩)] [[.tl (.str (.bool (.str (.int .u32 .nil))))]] (.nd))) (.nd))))
theorem e10 (k : Nat) (y : Tup h10) : exec (P := Try.prog) D (lk rowsL) [] k (bodyOf Try.f10) n10 (fnE Try.f10 A10 [1000000, 1000001] (inOf A10 (ofTup h10 y))) (fnSt [1000000, 1000001] (inOf A10 (ofTup h10 y))) (leafR D (fnE Try.f10 A10 [1000000, 1000001] (inOf A10 (ofTup h10 y))) Try.f10.results.toList (R10.map (·.h)) R10) = F10 k y.1 y.2 := by kernel_rfl
noncomputable def C10 (k : Nat) : Con Try.prog := ⟨10, Try.f10, Try.func10, by kernel_rfl, by kernel_rfl, A10, h10, [1000000, 1000001], R10, fun y => F10 k y.1 y.2, fun y r h => con_ok good mixed (c := bodyOf Try.f10) Try.func10 (by kernel_rfl) n10 y ((e10 k y).trans h)⟩
noncomputable def F6 (k : Nat) : Option Bool :=
(F5 k).bind fun y2 => 
(F8 k 3 [((⟨#[97]⟩ : ByteArray), false, (⟨#[49]⟩ : ByteArray)), ((⟨#[98]⟩ : ByteArray), false, ByteArray.empty)] y2).bind fun y4 => 
(F11 k [(⟨#[98]⟩ : ByteArray)] y4).bind fun y6 => 
(F10 k [(⟨#[97]⟩ : ByteArray), (⟨#[98]⟩ : ByteArray)] y6).bind fun y8 => 
cond ((y8.length : Int) == 2) (
(ix y8 0).bind fun a9 =>
(y8[0]?).bind fun a10 =>
cond ((a10.1.toList == (⟨#[97]⟩ : ByteArray).toList) && ((a10.2.1 == true) && ((a10.2.2.1.toList == (⟨#[49]⟩ : ByteArray).toList) && ((a10.2.2.2 == 3) && true)))) (
(ix y8 1).bind fun a11 =>
(y8[1]?).bind fun a12 =>
some ((a12.1.toList == (⟨#[98]⟩ : ByteArray).toList) && ((a12.2.1 == false) && ((a12.2.2.1.toList == ByteArray.empty.toList) && ((a12.2.2.2 == 0) && true))))) (
some false)) (
some false)
def A6 : CTpl := ⟨[], []⟩
def h6 : List HTy := []
def R6 : List RTpl := [⟨.b, [], [.tb]⟩]
def n6 : An := .sq (.nd) (.sq (.nd) (.sq (.nd) (.sq (.fr [(4, 9)]) (.sq (.fr [(2, 12)]) (.sq (.fr [(2, 15)]) (.nd))))))
theorem e6 (k : Nat) (y : Tup h6) : exec (P := Try.prog) D (lk rowsL) [C5 k, C8 k, C11 k, C10 k] k (bodyOf Try.f6) n6 (fnE Try.f6 A6 [] (inOf A6 (ofTup h6 y))) (fnSt [] (inOf A6 (ofTup h6 y))) (leafR D (fnE Try.f6 A6 [] (inOf A6 (ofTup h6 y))) Try.f6.results.toList (R6.map (·.h)) R6) = F6 k := by kernel_rfl
noncomputable def C6 (k : Nat) : Con Try.prog := ⟨6, Try.f6, Try.func6, by kernel_rfl, by kernel_rfl, A6, h6, [], R6, fun y => F6 k, fun y r h => con_ok good mixed (c := bodyOf Try.f6) Try.func6 (by kernel_rfl) n6 y ((e6 k y).trans h)⟩
noncomputable def F13 (k : Nat) (x1 : ByteArray) (x2 : Int) : Option ByteArray :=
grd (bnds (x1.size : Int) 0 (mn (x1.size : Int) x2)) <|
some (x1.extract 0 ((mn (x1.size : Int) x2).toNat))
def A13 : CTpl := ⟨[.s, .i .i64], []⟩
def h13 : List HTy := [.ts, .ti]
def R13 : List RTpl := [⟨.s, [], [.ts]⟩]
def n13 : An := .nd
theorem e13 (k : Nat) (y : Tup h13) : exec (P := Try.prog) D (lk rowsL) [] k (bodyOf Try.f13) n13 (fnE Try.f13 A13 [] (inOf A13 (ofTup h13 y))) (fnSt [] (inOf A13 (ofTup h13 y))) (leafR D (fnE Try.f13 A13 [] (inOf A13 (ofTup h13 y))) Try.f13.results.toList (R13.map (·.h)) R13) = F13 k y.1 y.2 := by kernel_rfl
noncomputable def C13 (k : Nat) : Con Try.prog := ⟨13, Try.f13, Try.func13, by kernel_rfl, by kernel_rfl, A13, h13, [], R13, fun y => F13 k y.1 y.2, fun y r h => con_ok good mixed (c := bodyOf Try.f13) Try.func13 (by kernel_rfl) n13 y ((e13 k y).trans h)⟩
noncomputable def L7_8 (k : Nat) (x1 : (List (ByteArray × Bool × ByteArray))) (x2 : Int) (z33 : (Int × (List (ByteArray × Bool × ByteArray)))) : Option ((Int × (List (ByteArray × Bool × ByteArray))) ⊕ (List (ByteArray × Bool × ByteArray))) :=
((cond (decide (z33.1 < (x1.length : Int))) (
some (decide (z33.1 < x2))) (
some false) : Option Bool)).bind fun y34 => 
cond y34 (
(ix x1 z33.1).bind fun a35 =>
(F13 k a35.1 60).bind fun y36 => 
(ix x1 z33.1).bind fun a37 =>
(ix x1 z33.1).bind fun a38 =>
(F13 k a38.2.2 60).bind fun y39 => 
grd (decide ((z33.2.length + [(y36, a37.2.1, y39)].length) * 40 ≤ 140737488355328)) <|
some (.inl ((IntKind.wrap .i64 (z33.1 + 1)), (z33.2 ++ [(y36, a37.2.1, y39)])))) (
some (.inr z33.2))
noncomputable def F7 (k : Nat) (x1 : (List (ByteArray × Bool × ByteArray))) (x2 : Int) : Option (List (ByteArray × Bool × ByteArray)) :=
(loopN (L7_8 k x1 x2) k (0, ([] : List (ByteArray × Bool × ByteArray)))).bind fun y40 => 
some y40
def A7 : CTpl := ⟨[.fz .u (.str (.bool (.str .nil))), .i .i64], []⟩
def h7 : List HTy := [.tl (.str (.bool (.str .nil))), .ti]
def R7 : List RTpl := [⟨.sl .u 500000, [(500000, .ar 32 (.str (.bool (.str .nil))))], [.tl (.str (.bool (.str .nil)))]⟩]
def n7 : An := .sq (.nd) (.sq (.nd) (.sq (.sq (.nd) (.lp [0, 1] [] ⟨[(5, .sl .n 300400), (6, .i .i64)], [(300400, .ar 32 (.str (.bool (.str .nil))))]⟩ [.ti, .tl (.str (.bool (.str .nil)))] [(2, ⟨[(5, .sl .n 300425)], [(300425, .ar 32 (.str (.bool (.str .nil))))]⟩)] [[.tl (.str (.bool (.str .nil)))]] (.sq (.jn [5, 6] [300400] [(0, ⟨[(15, .b)], []⟩)] [[.tb]] (.nd) (.nd)) (.sq (.mk [] [0, 0, 0, 6, 14, 30, 62, 0, 0, 384, 896, 1920, 0, 0, 12288, 28672, 61440, 127102, 262142, 524286, 1048575, 2097151]) (.nd))))) (.nd)))
theorem e7 (k : Nat) (y : Tup h7) : exec (P := Try.prog) D (lk rowsL) [C13 k] k (bodyOf Try.f7) n7 (fnE Try.f7 A7 [] (inOf A7 (ofTup h7 y))) (fnSt [] (inOf A7 (ofTup h7 y))) (leafR D (fnE Try.f7 A7 [] (inOf A7 (ofTup h7 y))) Try.f7.results.toList (R7.map (·.h)) R7) = F7 k y.1 y.2 := by kernel_rfl
noncomputable def C7 (k : Nat) : Con Try.prog := ⟨7, Try.f7, Try.func7, by kernel_rfl, by kernel_rfl, A7, h7, [], R7, fun y => F7 k y.1 y.2, fun y r h => con_ok good mixed (c := bodyOf Try.f7) Try.func7 (by kernel_rfl) n7 y ((e7 k y).trans h)⟩
noncomputable def L9_6 (k : Nat) (x1 : (List (ByteArray × Bool × ByteArray))) (x2 : ByteArray) (z13 : (Int × ByteArray × ByteArray)) : Option ((Int × ByteArray × ByteArray) ⊕ ((ByteArray × Bool × ByteArray) ⊕ (ByteArray × ByteArray))) :=
cond (decide (0 ≤ z13.1)) (
(ix x1 z13.1).bind fun a14 =>
cond (a14.1.toList == x2.toList) (
(ix x1 z13.1).bind fun a15 =>
some (.inr (.inl (a15.1, a15.2.1, a15.2.2)))) (
some (.inl ((IntKind.wrap .i64 (z13.1 - 1)), z13.2.1, z13.2.2)))) (
some (.inr (.inr (z13.2.1, z13.2.2))))
noncomputable def F9 (k : Nat) (x1 : (List (ByteArray × Bool × ByteArray))) (x2 : ByteArray) : Option (ByteArray × Bool × ByteArray × Bool) :=
(loopN (L9_6 k x1 x2) k ((IntKind.wrap .i64 ((x1.length : Int) - 1)), ByteArray.empty, ByteArray.empty)).bind fun y16 => 
sel (fun y17 =>
some (y17.1, y17.2.1, y17.2.2, true)) (fun y18 =>
some (ByteArray.empty, false, ByteArray.empty, false)) y16
def A9 : CTpl := ⟨[.fz .u (.str (.bool (.str .nil))), .s], []⟩
def h9 : List HTy := [.tl (.str (.bool (.str .nil))), .ts]
def R9 : List RTpl := [⟨.tp [.ag [.s, .b, .s], .b], [], [.ts, .tb, .ts, .tb]⟩]
def n9 : An := .sq (.nd) (.sq (.sq (.nd) (.lp [0, 1, 4] [] ⟨[(6, .i .i64)], [(4, .bx 32 [.s, .lb false, .s])]⟩ [.ti, .ts, .ts] [(1, ⟨[(5, .lb true)], [(4, .bx 32 [.s, .b, .s])]⟩), (2, ⟨[], [(4, .bx 32 [.s, .lb false, .s])]⟩)] [[.ts, .tb, .ts], [.ts, .ts]] (.nd))) (.nd))
theorem e9 (k : Nat) (y : Tup h9) : exec (P := Try.prog) D (lk rowsL) [] k (bodyOf Try.f9) n9 (fnE Try.f9 A9 [] (inOf A9 (ofTup h9 y))) (fnSt [] (inOf A9 (ofTup h9 y))) (leafR D (fnE Try.f9 A9 [] (inOf A9 (ofTup h9 y))) Try.f9.results.toList (R9.map (·.h)) R9) = F9 k y.1 y.2 := by kernel_rfl
noncomputable def C9 (k : Nat) : Con Try.prog := ⟨9, Try.f9, Try.func9, by kernel_rfl, by kernel_rfl, A9, h9, [], R9, fun y => F9 k y.1 y.2, fun y r h => con_ok good mixed (c := bodyOf Try.f9) Try.func9 (by kernel_rfl) n9 y ((e9 k y).trans h)⟩
noncomputable def L3_18 (k : Nat) (x1 : (List (List (ByteArray × Bool × ByteArray)))) (x3 : Int) (z150 : (ByteArray × Int × ByteArray × Bool × ByteArray × Int × (List (ByteArray × (ByteArray × Bool × ByteArray × Int))))) : Option ((ByteArray × Int × ByteArray × Bool × ByteArray × Int × (List (ByteArray × (ByteArray × Bool × ByteArray × Int)))) ⊕ (ByteArray × ByteArray × Bool × ByteArray × Int × (List (ByteArray × (ByteArray × Bool × ByteArray × Int))))) :=
((cond (decide (z150.2.1 < (x1.length : Int))) (
some (decide (z150.2.1 < 20))) (
some false) : Option Bool)).bind fun y151 => 
cond y151 (
(((ix x1 z150.2.1).bind fun a152 =>
(F7 k a152 8).bind fun y153 => 
((((cond (z150.2.1 == 0) (
cond (decide (0 < (y153.length : Int))) (
some (decide (0 ≤ x3))) (
some false)) (
some false) : Option Bool)).bind fun y154 => 
cond y154 (
grd ((y153.length : Int) != 0) <|
(ix y153 (x3.tmod (y153.length : Int))).bind fun a155 =>
(y153[(x3.tmod (y153.length : Int)).toNat]?).bind fun a156 =>
some a156.1) (
some z150.1) : Option ByteArray)).bind fun y157 => 
(F8 k (IntKind.wrap .u32 z150.2.1) y153 z150.2.2.2.2.2.2).bind fun y158 => 
(F9 k y153 y157).bind fun y159 => 
cond y159.2.2.2 (
cond (!y159.2.1) (
some (y157, ByteArray.empty, true, y159.2.2.1, (IntKind.wrap .u32 z150.2.1), y158)) (
some (y157, ByteArray.empty, false, ByteArray.empty, 0, y158))) (
some (y157, z150.2.2.1, z150.2.2.2.1, z150.2.2.2.2.1, z150.2.2.2.2.2.1, y158)) : Option (ByteArray × ByteArray × Bool × ByteArray × Int × (List (ByteArray × (ByteArray × Bool × ByteArray × Int)))))).bind fun y160 => 
some (.inl (y160.1, (IntKind.wrap .i64 (z150.2.1 + 1)), y160.2.1, y160.2.2.1, y160.2.2.2.1, y160.2.2.2.2.1, y160.2.2.2.2.2))) (
some (.inr (z150.1, z150.2.2.1, z150.2.2.2.1, z150.2.2.2.2.1, z150.2.2.2.2.2.1, z150.2.2.2.2.2.2)))
noncomputable def F3 (k : Nat) (x1 : (List (List (ByteArray × Bool × ByteArray)))) (x2 : ByteArray) (x3 : Int) : Option Bool :=
(F5 k).bind fun y2 => 
(((F6 k).bind fun y6 => 
cond (!y6) (
some true) (
some false) : Option Bool)).bind fun y7 => 
cond y7 (
some false) (
(loopN (L3_18 k x1 x3) k (x2, 0, ByteArray.empty, false, ByteArray.empty, 0, y2)).bind fun y161 => 
(F10 k [y161.1, y161.1] y161.2.2.2.2.2).bind fun y163 => 
cond ((y163.length : Int) == 2) (
(ix y163 0).bind fun a164 =>
(y163[0]?).bind fun a165 =>
cond ((a165.1.toList == y161.1.toList) && ((a165.2.1 == y161.2.2.1) && ((a165.2.2.1.toList == y161.2.2.2.1.toList) && ((a165.2.2.2 == y161.2.2.2.2.1) && true)))) (
(ix y163 1).bind fun a166 =>
(y163[1]?).bind fun a167 =>
some ((a167.1.toList == y161.1.toList) && ((a167.2.1 == y161.2.2.1) && ((a167.2.2.1.toList == y161.2.2.2.1.toList) && ((a167.2.2.2 == y161.2.2.2.2.1) && true))))) (
some false)) (
some false))
def A3 : CTpl := ⟨[.fz .u (.sl (.str (.bool (.str .nil))) .nil), .s, .i .i64], []⟩
def h3 : List HTy := [.tl (.sl (.str (.bool (.str .nil))) .nil), .ts, .ti]
def R3 : List RTpl := [⟨.b, [], [.tb]⟩]
def n3 : An := .sq (.nd) (.sq (.nd) (.sq (.jn [0, 1, 2, 7] [401400, 401401] [(0, ⟨[(20, .b)], []⟩)] [[.tb]] (.nd) (.nd)) (.sq (.nd) (.sq (.sq (.nd) (.lp [0, 2, 7, 8] [401400] ⟨[(1, .s), (9, .i .i64)], [(8, .bx 28 [.s, .b, .s, .i .u32]), (401401, .mp ⟨.s, true, (.str (.bool (.str (.int .u32 .nil))))⟩)]⟩ [.ts, .ti, .ts, .tb, .ts, .ti, .tm ⟨.s, true, (.str (.bool (.str (.int .u32 .nil))))⟩] [(2, ⟨[(1, .s)], [(8, .bx 28 [.s, .b, .s, .i .u32]), (401401, .mp ⟨.s, true, (.str (.bool (.str (.int .u32 .nil))))⟩)]⟩)] [[.ts, .ts, .tb, .ts, .ti, .tm ⟨.s, true, (.str (.bool (.str (.int .u32 .nil))))⟩]] (.sq (.jn [1, 9] [8, 401401] [(0, ⟨[(29, .b)], []⟩)] [[.tb]] (.nd) (.nd)) (.jn [9] [] [(0, ⟨[(1, .s)], [(8, .bx 28 [.s, .b, .s, .i .u32]), (401401, .mp ⟨.s, true, (.str (.bool (.str (.int .u32 .nil))))⟩)]⟩)] [[.ts, .ts, .tb, .ts, .ti, .tm ⟨.s, true, (.str (.bool (.str (.int .u32 .nil))))⟩]] (.sq (.nd) (.jn [10] [8, 401401, 403600] [(0, ⟨[(1, .s)], []⟩)] [[.ts]] (.jn [1] [] [(0, ⟨[(47, .b)], []⟩)] [[.tb]] (.nd) (.nd)) (.sq (.fr [(4, 403600)]) (.nd)))) (.nd))))) (.sq (.nd) (.sq (.fr [(4, 82)]) (.sq (.mk [] [0, 1, 3, 7, 15, 31, 63, 15, 255, 511, 1023, 2047, 4095, 8191, 2047, 32767, 65535, 131071]) (.nd))))))))
theorem e3 (k : Nat) (y : Tup h3) : exec (P := Try.prog) D (lk rowsL) [C5 k, C6 k, C7 k, C8 k, C9 k, C10 k] k (bodyOf Try.f3) n3 (fnE Try.f3 A3 [] (inOf A3 (ofTup h3 y))) (fnSt [] (inOf A3 (ofTup h3 y))) (leafR D (fnE Try.f3 A3 [] (inOf A3 (ofTup h3 y))) Try.f3.results.toList (R3.map (·.h)) R3) = F3 k y.1 y.2.1 y.2.2 := by kernel_rfl
noncomputable def C3 (k : Nat) : Con Try.prog := ⟨3, Try.f3, Try.func3, by kernel_rfl, by kernel_rfl, A3, h3, [], R3, fun y => F3 k y.1 y.2.1 y.2.2, fun y r h => con_ok good mixed (c := bodyOf Try.f3) Try.func3 (by kernel_rfl) n3 y ((e3 k y).trans h)⟩
noncomputable def F8_1 (k : Nat) (x1 : Int) (x2 : (List (ByteArray × Bool × ByteArray))) : Option Unit :=
some ()
def A8_1 : CTpl := ⟨[.c (.pointer none), .i .u32, .fz .u (.str (.bool (.str .nil)))], []⟩
def h8_1 : List HTy := [.ti, .tl (.str (.bool (.str .nil)))]
def R8_1 : List RTpl := [⟨.tp [], [], []⟩]
def n8_1 : An := .nd
theorem e8_1 (k : Nat) (y : Tup h8_1) : exec (P := Try.prog) D (lk rowsL) [] k (bodyOf Try.f8) n8_1 (fnE Try.f8 A8_1 [] (inOf A8_1 (ofTup h8_1 y))) (fnSt [] (inOf A8_1 (ofTup h8_1 y))) (leafR D (fnE Try.f8 A8_1 [] (inOf A8_1 (ofTup h8_1 y))) Try.f8.results.toList (R8_1.map (·.h)) R8_1) = F8_1 k y.1 y.2 := by kernel_rfl
noncomputable def C8_1 (k : Nat) : Con Try.prog := ⟨8, Try.f8, Try.func8, by kernel_rfl, by kernel_rfl, A8_1, h8_1, [], R8_1, fun y => F8_1 k y.1 y.2, fun y r h => con_ok good mixed (c := bodyOf Try.f8) Try.func8 (by kernel_rfl) n8_1 y ((e8_1 k y).trans h)⟩
noncomputable def F11_1 (k : Nat) (x1 : (List ByteArray)) : Option Unit :=
some ()
def A11_1 : CTpl := ⟨[.c (.pointer none), .fz .u (.str .nil)], []⟩
def h11_1 : List HTy := [.tl (.str .nil)]
def R11_1 : List RTpl := [⟨.tp [], [], []⟩]
def n11_1 : An := .nd
theorem e11_1 (k : Nat) (y : Tup h11_1) : exec (P := Try.prog) D (lk rowsL) [] k (bodyOf Try.f11) n11_1 (fnE Try.f11 A11_1 [] (inOf A11_1 (ofTup h11_1 y))) (fnSt [] (inOf A11_1 (ofTup h11_1 y))) (leafR D (fnE Try.f11 A11_1 [] (inOf A11_1 (ofTup h11_1 y))) Try.f11.results.toList (R11_1.map (·.h)) R11_1) = F11_1 k y := by kernel_rfl
noncomputable def C11_1 (k : Nat) : Con Try.prog := ⟨11, Try.f11, Try.func11, by kernel_rfl, by kernel_rfl, A11_1, h11_1, [], R11_1, fun y => F11_1 k y, fun y r h => con_ok good mixed (c := bodyOf Try.f11) Try.func11 (by kernel_rfl) n11_1 y ((e11_1 k y).trans h)⟩
noncomputable def F12 (k : Nat) : Option Unit :=
some ()
def A12 : CTpl := ⟨[.c (.pointer none)], []⟩
def h12 : List HTy := []
def R12 : List RTpl := [⟨.c (.slice none 0 0), [], []⟩]
def n12 : An := .nd
theorem e12 (k : Nat) (y : Tup h12) : exec (P := Try.prog) D (lk rowsL) [] k (bodyOf Try.f12) n12 (fnE Try.f12 A12 [] (inOf A12 (ofTup h12 y))) (fnSt [] (inOf A12 (ofTup h12 y))) (leafR D (fnE Try.f12 A12 [] (inOf A12 (ofTup h12 y))) Try.f12.results.toList (R12.map (·.h)) R12) = F12 k := by kernel_rfl
noncomputable def C12 (k : Nat) : Con Try.prog := ⟨12, Try.f12, Try.func12, by kernel_rfl, by kernel_rfl, A12, h12, [], R12, fun y => F12 k, fun y r h => con_ok good mixed (c := bodyOf Try.f12) Try.func12 (by kernel_rfl) n12 y ((e12 k y).trans h)⟩
noncomputable def F4 (k : Nat) (x1 : (List ByteArray)) : Option Bool :=
(F8_1 k 1 [((⟨#[97]⟩ : ByteArray), false, ByteArray.empty)]).bind fun y2 => 
(F11_1 k x1).bind fun y4 => 
(F6 k).bind fun y5 => 
cond y5 (
(F12 k).bind fun y6 => 
some true) (
some false)
def A4 : CTpl := ⟨[.fz .u (.str .nil)], []⟩
def h4 : List HTy := [.tl (.str .nil)]
def R4 : List RTpl := [⟨.b, [], [.tb]⟩]
def n4 : An := .sq (.nd) (.sq (.nd) (.sq (.fr [(3, 6)]) (.nd)))
theorem e4 (k : Nat) (y : Tup h4) : exec (P := Try.prog) D (lk rowsL) [C8_1 k, C11_1 k, C6 k, C12 k] k (bodyOf Try.f4) n4 (fnE Try.f4 A4 [] (inOf A4 (ofTup h4 y))) (fnSt [] (inOf A4 (ofTup h4 y))) (leafR D (fnE Try.f4 A4 [] (inOf A4 (ofTup h4 y))) Try.f4.results.toList (R4.map (·.h)) R4) = F4 k y := by kernel_rfl
noncomputable def C4 (k : Nat) : Con Try.prog := ⟨4, Try.f4, Try.func4, by kernel_rfl, by kernel_rfl, A4, h4, [], R4, fun y => F4 k y, fun y r h => con_ok good mixed (c := bodyOf Try.f4) Try.func4 (by kernel_rfl) n4 y ((e4 k y).trans h)⟩
end Go.Proofs.Ytfdglmgblmoakaa.N

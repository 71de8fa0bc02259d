/- What the functions compute, natively, and that they do. Printed by a program (wip/xg). -/
import Derived.Test.YtfdglmgblmoakaaDoorMc4
import Derived.Test.YtfdglmgblmoakaaDoorProg
import Derived.Test.YtfdglmgblmoakaaDoorShelf
namespace Go.Proofs.YtfdglmgblmoakaaDoor.N
open Go Go.RowKit Go.Proofs.YtfdglmgblmoakaaDoor.Mc Go.Proofs
set_option maxRecDepth 100000
set_option maxHeartbeats 0
set_option linter.unusedVariables false
noncomputable abbrev D := decOf Tryd.prog
theorem good : Go.Proofs.YtfdglmgblmoakaaDoor.Mc.Good Tryd.prog D := good_of _
theorem mixed : Tryd.prog.follows .mixedOrders = true := by kernel_rfl
def rowsL : List (Nat × Row) := [(23, (.int .i64 .nil)), (29, (.str (.bool (.str .nil)))), (31, (.str .nil)), (33, (.str (.bool (.str (.int .u32 .nil))))), (58, (.str (.bool (.str (.int .u32 .nil))))), (74, (.int .u8 .nil)), (80, (.int .i32 .nil))]
def namesT : List ByteArray := [(⟨#[97]⟩ : ByteArray), (⟨#[98]⟩ : ByteArray), (⟨#[99]⟩ : ByteArray), (⟨#[97, 98]⟩ : ByteArray), (⟨#[107, 49]⟩ : ByteArray), (⟨#[107, 50]⟩ : ByteArray), (⟨#[107, 51]⟩ : ByteArray), (⟨#[195, 169]⟩ : ByteArray), (⟨#[195, 169, 97]⟩ : ByteArray), (⟨#[240, 159, 152, 128]⟩ : ByteArray), (⟨#[42]⟩ : ByteArray), (⟨#[122, 122]⟩ : ByteArray)]
variable [Mo]
noncomputable def F6 (k : Nat) : Option (List (ByteArray × (ByteArray × Bool × ByteArray × Int))) :=
some ([] : List (ByteArray × (ByteArray × Bool × ByteArray × Int)))
def A6 : CTpl := ⟨[], []⟩
def h6 : List HTy := []
def R6 : List RTpl := [⟨.pt 500000 0, [(500000, .bx 60 [.mp 500001]), (500001, .mp ⟨.s, true, (.str (.bool (.str (.int .u32 .nil))))⟩)], [.tm ⟨.s, true, (.str (.bool (.str (.int .u32 .nil))))⟩]⟩]
def n6 : An := .nd
theorem e6 (k : Nat) (y : Tup h6) : exec (P := Tryd.prog) D (lk rowsL) [] k (bodyOf Tryd.f6) n6 (fnE Tryd.f6 A6 [] (inOf A6 (ofTup h6 y))) (fnSt [] (inOf A6 (ofTup h6 y))) (leafR D (fnE Tryd.f6 A6 [] (inOf A6 (ofTup h6 y))) Tryd.f6.results.toList (R6.map (·.h)) R6) = F6 k := by kernel_rfl
noncomputable def C6 (k : Nat) : Con Tryd.prog := ⟨6, Tryd.f6, Tryd.func6, by kernel_rfl, by kernel_rfl, A6, h6, [], R6, fun y => F6 k, fun y r h => con_ok good mixed (c := bodyOf Tryd.f6) Tryd.func6 (by kernel_rfl) n6 y ((e6 k y).trans h)⟩
noncomputable def L8_15 (k : Nat) (x1 : Int) (x2 : (List (ByteArray × Bool × ByteArray))) (z8 : (Int × (List (ByteArray × (ByteArray × Bool × ByteArray × Int))))) : Option ((Int × (List (ByteArray × (ByteArray × Bool × ByteArray × Int)))) ⊕ (List (ByteArray × (ByteArray × Bool × ByteArray × Int)))) :=
cond (decide (z8.1 < (x2.length : Int))) (
(((ix x2 z8.1).bind fun a9 =>
cond a9.2.1 (
some (mdel sEq z8.2 a9.1)) (
some (mset sEq z8.2 a9.1 (a9.1, true, a9.2.2, x1))) : Option (List (ByteArray × (ByteArray × Bool × ByteArray × Int))))).bind fun y10 => 
some (.inl ((IntKind.wrap .i64 (z8.1 + 1)), y10))) (
some (.inr z8.2))
noncomputable def F8 (k : Nat) (x1 : Int) (x2 : (List (ByteArray × Bool × ByteArray))) (x3 : (List (ByteArray × (ByteArray × Bool × ByteArray × Int)))) : Option (List (ByteArray × (ByteArray × Bool × ByteArray × Int))) :=
(loopN (L8_15 k x1 x2) k (0, x3)).bind fun y11 => 
some y11
def A8 : CTpl := ⟨[.pt 1000000 0, .i .u32, .fz .u (.str (.bool (.str .nil)))], [(1000000, .bx 60 [.mp 1000001]), (1000001, .mp ⟨.s, true, (.str (.bool (.str (.int .u32 .nil))))⟩)]⟩
def h8 : List HTy := [.ti, .tl (.str (.bool (.str .nil))), .tm ⟨.s, true, (.str (.bool (.str (.int .u32 .nil))))⟩]
def R8 : List RTpl := [⟨.tp [], [(1000001, .mp ⟨.s, true, (.str (.bool (.str (.int .u32 .nil))))⟩)], [.tm ⟨.s, true, (.str (.bool (.str (.int .u32 .nil))))⟩]⟩]
def n8 : An := .sq (.nd) (.sq (.nd) (.sq (.nd) (.lp [0, 1, 19, 20] [] ⟨[(21, .i .i64)], [(1000001, .mp ⟨.s, true, (.str (.bool (.str (.int .u32 .nil))))⟩)]⟩ [.ti, .tm ⟨.s, true, (.str (.bool (.str (.int .u32 .nil))))⟩] [(2, ⟨[], [(1000001, .mp ⟨.s, true, (.str (.bool (.str (.int .u32 .nil))))⟩)]⟩)] [[.tm ⟨.s, true, (.str (.bool (.str (.int .u32 .nil))))⟩]] (.sq (.nd) (.sq (.nd) (.jn [21] [] [(0, ⟨[], [(1000001, .mp ⟨.s, true, (.str (.bool (.str (.int .u32 .nil))))⟩)]⟩)] [[.tm ⟨.s, true, (.str (.bool (.str (.int .u32 .nil))))⟩]] (.sq (.nd) (.sq (.nd) (.sq (.mk [] [0, 1, 3, 7, 0, 16, 63]) (.mk [] [0, 1, 3, 7, 0, 16, 0, 64, 0, 256, 0, 1984, 4095])))) (.nd)))))))
theorem e8 (k : Nat) (y : Tup h8) : exec (P := Tryd.prog) D (lk rowsL) [] k (bodyOf Tryd.f8) n8 (fnE Tryd.f8 A8 [1000000] (inOf A8 (ofTup h8 y))) (fnSt [1000000] (inOf A8 (ofTup h8 y))) (leafR D (fnE Tryd.f8 A8 [1000000] (inOf A8 (ofTup h8 y))) Tryd.f8.results.toList (R8.map (·.h)) R8) = F8 k y.1 y.2.1 y.2.2 := by kernel_rfl
noncomputable def C8 (k : Nat) : Con Tryd.prog := ⟨8, Tryd.f8, Tryd.func8, by kernel_rfl, by kernel_rfl, A8, h8, [1000000], R8, fun y => F8 k y.1 y.2.1 y.2.2, fun y r h => con_ok good mixed (c := bodyOf Tryd.f8) Tryd.func8 (by kernel_rfl) n8 y ((e8 k y).trans h)⟩
noncomputable def L13_6 (k : Nat) (x1 : (List ByteArray)) (z6 : (Int × (List (ByteArray × (ByteArray × Bool × ByteArray × Int))))) : Option ((Int × (List (ByteArray × (ByteArray × Bool × ByteArray × Int)))) ⊕ (List (ByteArray × (ByteArray × Bool × ByteArray × Int)))) :=
cond (decide (z6.1 < (x1.length : Int))) (
(ix x1 z6.1).bind fun a7 =>
some (.inl ((IntKind.wrap .i64 (z6.1 + 1)), (mdel sEq z6.2 a7)))) (
some (.inr z6.2))
noncomputable def F13 (k : Nat) (x1 : (List ByteArray)) (x2 : (List (ByteArray × (ByteArray × Bool × ByteArray × Int)))) : Option (List (ByteArray × (ByteArray × Bool × ByteArray × Int))) :=
(loopN (L13_6 k x1) k (0, x2)).bind fun y8 => 
some y8
def A13 : CTpl := ⟨[.pt 1000000 0, .fz .u (.str .nil)], [(1000000, .bx 60 [.mp 1000001]), (1000001, .mp ⟨.s, true, (.str (.bool (.str (.int .u32 .nil))))⟩)]⟩
def h13 : List HTy := [.tl (.str .nil), .tm ⟨.s, true, (.str (.bool (.str (.int .u32 .nil))))⟩]
def R13 : List RTpl := [⟨.tp [], [(1000001, .mp ⟨.s, true, (.str (.bool (.str (.int .u32 .nil))))⟩)], [.tm ⟨.s, true, (.str (.bool (.str (.int .u32 .nil))))⟩]⟩]
def n13 : An := .sq (.nd) (.sq (.sq (.nd) (.lp [0, 8, 9] [] ⟨[(10, .i .i64)], [(1000001, .mp ⟨.s, true, (.str (.bool (.str (.int .u32 .nil))))⟩)]⟩ [.ti, .tm ⟨.s, true, (.str (.bool (.str (.int .u32 .nil))))⟩] [(2, ⟨[], [(1000001, .mp ⟨.s, true, (.str (.bool (.str (.int .u32 .nil))))⟩)]⟩)] [[.tm ⟨.s, true, (.str (.bool (.str (.int .u32 .nil))))⟩]] (.nd))) (.nd))
theorem e13 (k : Nat) (y : Tup h13) : exec (P := Tryd.prog) D (lk rowsL) [] k (bodyOf Tryd.f13) n13 (fnE Tryd.f13 A13 [1000000] (inOf A13 (ofTup h13 y))) (fnSt [1000000] (inOf A13 (ofTup h13 y))) (leafR D (fnE Tryd.f13 A13 [1000000] (inOf A13 (ofTup h13 y))) Tryd.f13.results.toList (R13.map (·.h)) R13) = F13 k y.1 y.2 := by kernel_rfl
noncomputable def C13 (k : Nat) : Con Tryd.prog := ⟨13, Tryd.f13, Tryd.func13, by kernel_rfl, by kernel_rfl, A13, h13, [1000000], R13, fun y => F13 k y.1 y.2, fun y r h => con_ok good mixed (c := bodyOf Tryd.f13) Tryd.func13 (by kernel_rfl) n13 y ((e13 k y).trans h)⟩
noncomputable def L11_16 (k : Nat) (x1 : (List ByteArray)) (x2 : (List (ByteArray × (ByteArray × Bool × ByteArray × Int)))) (z13 : (Int × (List (ByteArray × Bool × ByteArray × Int)))) : Option ((Int × (List (ByteArray × Bool × ByteArray × Int))) ⊕ (List (ByteArray × Bool × ByteArray × Int))) :=
cond (decide (z13.1 < (x1.length : Int))) (
(ix x1 z13.1).bind fun a14 =>
(some ((mget sEq x2 a14).getD (ByteArray.empty, false, ByteArray.empty, 0), (mget sEq x2 a14).isSome)).bind fun a15 =>
grd (decide ((z13.2.length + [(a14, a15.1.2.1, a15.1.2.2.1, a15.1.2.2.2)].length) * 48 ≤ 140737488355328)) <|
some (.inl ((IntKind.wrap .i64 (z13.1 + 1)), (z13.2 ++ [(a14, a15.1.2.1, a15.1.2.2.1, a15.1.2.2.2)])))) (
some (.inr z13.2))
noncomputable def F11 (k : Nat) (x1 : (List ByteArray)) (x2 : (List (ByteArray × (ByteArray × Bool × ByteArray × Int)))) : Option (List (ByteArray × Bool × ByteArray × Int)) :=
(loopN (L11_16 k x1 x2) k (0, ([] : List (ByteArray × Bool × ByteArray × Int)))).bind fun y16 => 
some y16
def A11 : CTpl := ⟨[.pt 1000000 0, .fz .u (.str .nil)], [(1000000, .bx 60 [.mp 1000001]), (1000001, .mp ⟨.s, true, (.str (.bool (.str (.int .u32 .nil))))⟩)]⟩
def h11 : List HTy := [.tl (.str .nil), .tm ⟨.s, true, (.str (.bool (.str (.int .u32 .nil))))⟩]
def R11 : List RTpl := [⟨.sl .u 500000, [(500000, .ar 38 (.str (.bool (.str (.int .u32 .nil)))))], [.tl (.str (.bool (.str (.int .u32 .nil))))]⟩]
def n11 : An := .sq (.nd) (.sq (.nd) (.sq (.nd) (.sq (.sq (.nd) (.lp [0, 11, 12] [] ⟨[(5, .sl .n 300800), (13, .i .i64)], [(300800, .ar 38 (.str (.bool (.str (.int .u32 .nil)))))]⟩ [.ti, .tl (.str (.bool (.str (.int .u32 .nil))))] [(2, ⟨[(5, .sl .n 300825)], [(300825, .ar 38 (.str (.bool (.str (.int .u32 .nil)))))]⟩)] [[.tl (.str (.bool (.str (.int .u32 .nil))))]] (.nd))) (.nd))))
theorem e11 (k : Nat) (y : Tup h11) : exec (P := Tryd.prog) D (lk rowsL) [] k (bodyOf Tryd.f11) n11 (fnE Tryd.f11 A11 [1000000, 1000001] (inOf A11 (ofTup h11 y))) (fnSt [1000000, 1000001] (inOf A11 (ofTup h11 y))) (leafR D (fnE Tryd.f11 A11 [1000000, 1000001] (inOf A11 (ofTup h11 y))) Tryd.f11.results.toList (R11.map (·.h)) R11) = F11 k y.1 y.2 := by kernel_rfl
noncomputable def C11 (k : Nat) : Con Tryd.prog := ⟨11, Tryd.f11, Tryd.func11, by kernel_rfl, by kernel_rfl, A11, h11, [1000000, 1000001], R11, fun y => F11 k y.1 y.2, fun y r h => con_ok good mixed (c := bodyOf Tryd.f11) Tryd.func11 (by kernel_rfl) n11 y ((e11 k y).trans h)⟩
noncomputable def F7 (k : Nat) : Option Bool :=
(F6 k).bind fun y2 => 
(F8 k 3 [((⟨#[97]⟩ : ByteArray), false, (⟨#[49]⟩ : ByteArray)), ((⟨#[98]⟩ : ByteArray), false, ByteArray.empty)] y2).bind fun y4 => 
(F13 k [(⟨#[98]⟩ : ByteArray)] y4).bind fun y6 => 
(F11 k [(⟨#[97]⟩ : ByteArray), (⟨#[98]⟩ : ByteArray)] y6).bind fun y8 => 
cond ((y8.length : Int) == 2) (
(ix y8 0).bind fun a9 =>
(y8[0]?).bind fun a10 =>
cond ((a10.1.toList == (⟨#[97]⟩ : ByteArray).toList) && ((a10.2.1 == true) && ((a10.2.2.1.toList == (⟨#[49]⟩ : ByteArray).toList) && ((a10.2.2.2 == 3) && true)))) (
(ix y8 1).bind fun a11 =>
(y8[1]?).bind fun a12 =>
some ((a12.1.toList == (⟨#[98]⟩ : ByteArray).toList) && ((a12.2.1 == false) && ((a12.2.2.1.toList == ByteArray.empty.toList) && ((a12.2.2.2 == 0) && true))))) (
some false)) (
some false)
def A7 : CTpl := ⟨[], []⟩
def h7 : List HTy := []
def R7 : List RTpl := [⟨.b, [], [.tb]⟩]
def n7 : An := .sq (.nd) (.sq (.nd) (.sq (.nd) (.sq (.fr [(4, 9)]) (.sq (.fr [(2, 12)]) (.sq (.fr [(2, 15)]) (.nd))))))
theorem e7 (k : Nat) (y : Tup h7) : exec (P := Tryd.prog) D (lk rowsL) [C6 k, C8 k, C13 k, C11 k] k (bodyOf Tryd.f7) n7 (fnE Tryd.f7 A7 [] (inOf A7 (ofTup h7 y))) (fnSt [] (inOf A7 (ofTup h7 y))) (leafR D (fnE Tryd.f7 A7 [] (inOf A7 (ofTup h7 y))) Tryd.f7.results.toList (R7.map (·.h)) R7) = F7 k := by kernel_rfl
noncomputable def C7 (k : Nat) : Con Tryd.prog := ⟨7, Tryd.f7, Tryd.func7, by kernel_rfl, by kernel_rfl, A7, h7, [], R7, fun y => F7 k, fun y r h => con_ok good mixed (c := bodyOf Tryd.f7) Tryd.func7 (by kernel_rfl) n7 y ((e7 k y).trans h)⟩
noncomputable def F15 (k : Nat) (x1 : Int) (x2 : Int) : Option Int :=
grd (x2 != 0) <|
((cond (decide ((x1.tmod x2) < 0)) (
some (IntKind.wrap .i64 ((x1.tmod x2) + x2))) (
some (x1.tmod x2)) : Option Int)).bind fun y1 => 
some y1
def A15 : CTpl := ⟨[.i .i64, .i .i64], []⟩
def h15 : List HTy := [.ti, .ti]
def R15 : List RTpl := [⟨.i .i64, [], [.ti]⟩]
def n15 : An := .sq (.nd) (.sq (.nd) (.jn [] [] [(0, ⟨[(0, .i .i64)], []⟩)] [[.ti]] (.nd) (.nd)))
theorem e15 (k : Nat) (y : Tup h15) : exec (P := Tryd.prog) D (lk rowsL) [] k (bodyOf Tryd.f15) n15 (fnE Tryd.f15 A15 [] (inOf A15 (ofTup h15 y))) (fnSt [] (inOf A15 (ofTup h15 y))) (leafR D (fnE Tryd.f15 A15 [] (inOf A15 (ofTup h15 y))) Tryd.f15.results.toList (R15.map (·.h)) R15) = F15 k y.1 y.2 := by kernel_rfl
noncomputable def C15 (k : Nat) : Con Tryd.prog := ⟨15, Tryd.f15, Tryd.func15, by kernel_rfl, by kernel_rfl, A15, h15, [], R15, fun y => F15 k y.1 y.2, fun y r h => con_ok good mixed (c := bodyOf Tryd.f15) Tryd.func15 (by kernel_rfl) n15 y ((e15 k y).trans h)⟩
noncomputable def F10 (k : Nat) (x1 : Int) : Option ByteArray :=
(F15 k x1 12).bind fun y1 => 
(ix namesT y1).bind fun a2 =>
some a2
def A10 : CTpl := ⟨[.i .i64], []⟩
def h10 : List HTy := [.ti]
def R10 : List RTpl := [⟨.s, [], [.ts]⟩]
def n10 : An := .nd
theorem e10 (k : Nat) (y : Tup h10) : exec (P := Tryd.prog) D (lk rowsL) [C15 k] k (bodyOf Tryd.f10) n10 (fnE Tryd.f10 A10 [] (inOf A10 (ofTup h10 y))) (fnSt [] (inOf A10 (ofTup h10 y))) (leafR D (fnE Tryd.f10 A10 [] (inOf A10 (ofTup h10 y))) Tryd.f10.results.toList (R10.map (·.h)) R10) = F10 k y := by kernel_rfl
noncomputable def C10 (k : Nat) : Con Tryd.prog := ⟨10, Tryd.f10, Tryd.func10, by kernel_rfl, by kernel_rfl, A10, h10, [], R10, fun y => F10 k y, fun y r h => con_ok good mixed (c := bodyOf Tryd.f10) Tryd.func10 (by kernel_rfl) n10 y ((e10 k y).trans h)⟩
noncomputable def L33_8 (k : Nat) (x1 : Int) (z21 : (Int × (List Int))) : Option ((Int × (List Int)) ⊕ (List Int)) :=
cond (decide (z21.1 < (z21.2.length : Int))) (
(ix z21.2 z21.1).bind fun a22 =>
((z21.2[z21.1.toNat]?).bind fun a23 => some x1).bind fun a24 =>
some (.inl ((IntKind.wrap .i64 (z21.1 + 1)), (z21.2.set z21.1.toNat a24)))) (
some (.inr z21.2))
noncomputable def F33 (k : Nat) (x1 : Int) (x2 : Int) : Option ByteArray :=
grd (decide (0 ≤ (mx x2 0) ∧ (mx x2 0) ≤ 9223372036854775807 ∧ 1 * ((mx x2 0).toNat) ≤ 281474976710656)) <|
(loopN (L33_8 k x1) k (0, (List.replicate ((mx x2 0).toNat) 0))).bind fun y25 => 
some (strOfNums y25)
def A33 : CTpl := ⟨[.i .u8, .i .i64], []⟩
def h33 : List HTy := [.ti, .ti]
def R33 : List RTpl := [⟨.s, [], [.ts]⟩]
def n33 : An := .sq (.nd) (.sq (.nd) (.sq (.sq (.nd) (.lp [0, 5] [] ⟨[(6, .i .i64)], [(9, .ar 5 (.int .u8 .nil))]⟩ [.ti, .tl (.int .u8 .nil)] [(2, ⟨[], [(9, .ar 5 (.int .u8 .nil))]⟩)] [[.tl (.int .u8 .nil)]] (.nd))) (.nd)))
theorem e33 (k : Nat) (y : Tup h33) : exec (P := Tryd.prog) D (lk rowsL) [] k (bodyOf Tryd.f33) n33 (fnE Tryd.f33 A33 [] (inOf A33 (ofTup h33 y))) (fnSt [] (inOf A33 (ofTup h33 y))) (leafR D (fnE Tryd.f33 A33 [] (inOf A33 (ofTup h33 y))) Tryd.f33.results.toList (R33.map (·.h)) R33) = F33 k y.1 y.2 := by kernel_rfl
noncomputable def C33 (k : Nat) : Con Tryd.prog := ⟨33, Tryd.f33, Tryd.func33, by kernel_rfl, by kernel_rfl, A33, h33, [], R33, fun y => F33 k y.1 y.2, fun y r h => con_ok good mixed (c := bodyOf Tryd.f33) Tryd.func33 (by kernel_rfl) n33 y ((e33 k y).trans h)⟩
noncomputable def F34 (k : Nat) (x1 : ByteArray) (x2 : Int) : Option ByteArray :=
grd (bnds (x1.size : Int) 0 (mn (x1.size : Int) x2)) <|
some (x1.extract 0 ((mn (x1.size : Int) x2).toNat))
def A34 : CTpl := ⟨[.s, .i .i64], []⟩
def h34 : List HTy := [.ts, .ti]
def R34 : List RTpl := [⟨.s, [], [.ts]⟩]
def n34 : An := .nd
theorem e34 (k : Nat) (y : Tup h34) : exec (P := Tryd.prog) D (lk rowsL) [] k (bodyOf Tryd.f34) n34 (fnE Tryd.f34 A34 [] (inOf A34 (ofTup h34 y))) (fnSt [] (inOf A34 (ofTup h34 y))) (leafR D (fnE Tryd.f34 A34 [] (inOf A34 (ofTup h34 y))) Tryd.f34.results.toList (R34.map (·.h)) R34) = F34 k y.1 y.2 := by kernel_rfl
noncomputable def C34 (k : Nat) : Con Tryd.prog := ⟨34, Tryd.f34, Tryd.func34, by kernel_rfl, by kernel_rfl, A34, h34, [], R34, fun y => F34 k y.1 y.2, fun y r h => con_ok good mixed (c := bodyOf Tryd.f34) Tryd.func34 (by kernel_rfl) n34 y ((e34 k y).trans h)⟩
noncomputable def F26 (k : Nat) (x1 : ByteArray) (x2 : Int) : Option ByteArray :=
(((F15 k x2 9).bind fun y4 => 
cond (y4 == 8) (
(F33 k 120 40).bind fun y5 => 
grd (decide (x1.size + y5.size ≤ 9223372036854775807)) <|
some (x1 ++ y5)) (
some x1) : Option ByteArray)).bind fun y6 => 
(F34 k y6 48).bind fun y7 => 
some y7
def A26 : CTpl := ⟨[.s, .i .i64], []⟩
def h26 : List HTy := [.ts, .ti]
def R26 : List RTpl := [⟨.s, [], [.ts]⟩]
def n26 : An := .sq (.nd) (.jn [] [] [(0, ⟨[(0, .s)], []⟩)] [[.ts]] (.nd) (.nd))
theorem e26 (k : Nat) (y : Tup h26) : exec (P := Tryd.prog) D (lk rowsL) [C15 k, C33 k, C34 k] k (bodyOf Tryd.f26) n26 (fnE Tryd.f26 A26 [] (inOf A26 (ofTup h26 y))) (fnSt [] (inOf A26 (ofTup h26 y))) (leafR D (fnE Tryd.f26 A26 [] (inOf A26 (ofTup h26 y))) Tryd.f26.results.toList (R26.map (·.h)) R26) = F26 k y.1 y.2 := by kernel_rfl
noncomputable def C26 (k : Nat) : Con Tryd.prog := ⟨26, Tryd.f26, Tryd.func26, by kernel_rfl, by kernel_rfl, A26, h26, [], R26, fun y => F26 k y.1 y.2, fun y r h => con_ok good mixed (c := bodyOf Tryd.f26) Tryd.func26 (by kernel_rfl) n26 y ((e26 k y).trans h)⟩
noncomputable def F63 (k : Nat) (x1 : ByteArray) (x2 : Int) (x3 : Int) (x4 : Int) : Option Bool :=
cond (decide (x2 < (x1.size : Int))) (
grd (decide (0 ≤ x2 ∧ x2 < (x1.size : Int))) <|
cond (decide (x3 ≤ (bt x1 x2))) (
grd (decide (0 ≤ x2 ∧ x2 < (x1.size : Int))) <|
some (decide ((bt x1 x2) ≤ x4))) (
some false)) (
some false)
def A63 : CTpl := ⟨[.s, .i .i64, .i .u8, .i .u8], []⟩
def h63 : List HTy := [.ts, .ti, .ti, .ti]
def R63 : List RTpl := [⟨.b, [], [.tb]⟩]
def n63 : An := .nd
theorem e63 (k : Nat) (y : Tup h63) : exec (P := Tryd.prog) D (lk rowsL) [] k (bodyOf Tryd.f63) n63 (fnE Tryd.f63 A63 [] (inOf A63 (ofTup h63 y))) (fnSt [] (inOf A63 (ofTup h63 y))) (leafR D (fnE Tryd.f63 A63 [] (inOf A63 (ofTup h63 y))) Tryd.f63.results.toList (R63.map (·.h)) R63) = F63 k y.1 y.2.1 y.2.2.1 y.2.2.2 := by kernel_rfl
noncomputable def C63 (k : Nat) : Con Tryd.prog := ⟨63, Tryd.f63, Tryd.func63, by kernel_rfl, by kernel_rfl, A63, h63, [], R63, fun y => F63 k y.1 y.2.1 y.2.2.1 y.2.2.2, fun y r h => con_ok good mixed (c := bodyOf Tryd.f63) Tryd.func63 (by kernel_rfl) n63 y ((e63 k y).trans h)⟩
noncomputable def F50 (k : Nat) (x1 : ByteArray) (x2 : Int) : Option (Int × Int) :=
grd (decide (0 ≤ x2 ∧ x2 < (x1.size : Int))) <|
cond (decide ((bt x1 x2) < 128)) (
some ((IntKind.wrap .i64 (bt x1 x2)), 1)) (
((cond (decide (194 ≤ (bt x1 x2))) (
cond (decide ((bt x1 x2) ≤ 223)) (
(F63 k x1 (IntKind.wrap .i64 (x2 + 1)) 128 191).bind fun y4 => 
some y4) (
some false)) (
some false) : Option Bool)).bind fun y5 => 
cond y5 (
grd (decide (0 ≤ (IntKind.wrap .i64 (x2 + 1)) ∧ (IntKind.wrap .i64 (x2 + 1)) < (x1.size : Int))) <|
some ((IntKind.wrap .i64 ((IntKind.wrap .i64 ((IntKind.wrap .i64 (bits .and .u8 (bt x1 x2) 31)) * 64)) + (IntKind.wrap .i64 (bits .and .u8 (bt x1 (IntKind.wrap .i64 (x2 + 1))) 63)))), 2)) (
((cond ((bt x1 x2) == 224) (
some (160, 191)) (
cond ((bt x1 x2) == 237) (
some (128, 159)) (
cond ((bt x1 x2) == 240) (
some (144, 191)) (
cond ((bt x1 x2) == 244) (
some (128, 143)) (
some (128, 191))))) : Option (Int × Int))).bind fun y6 => 
((cond (decide (224 ≤ (bt x1 x2))) (
cond (decide ((bt x1 x2) ≤ 239)) (
(F63 k x1 (IntKind.wrap .i64 (x2 + 1)) y6.1 y6.2).bind fun y12 => 
cond y12 (
(F63 k x1 (IntKind.wrap .i64 (x2 + 2)) 128 191).bind fun y13 => 
some y13) (
some false)) (
some false)) (
some false) : Option Bool)).bind fun y14 => 
cond y14 (
grd (decide (0 ≤ (IntKind.wrap .i64 (x2 + 1)) ∧ (IntKind.wrap .i64 (x2 + 1)) < (x1.size : Int))) <|
grd (decide (0 ≤ (IntKind.wrap .i64 (x2 + 2)) ∧ (IntKind.wrap .i64 (x2 + 2)) < (x1.size : Int))) <|
some ((IntKind.wrap .i64 ((IntKind.wrap .i64 ((IntKind.wrap .i64 ((IntKind.wrap .i64 (bits .and .u8 (bt x1 x2) 15)) * 4096)) + (IntKind.wrap .i64 ((IntKind.wrap .i64 (bits .and .u8 (bt x1 (IntKind.wrap .i64 (x2 + 1))) 63)) * 64)))) + (IntKind.wrap .i64 (bits .and .u8 (bt x1 (IntKind.wrap .i64 (x2 + 2))) 63)))), 3)) (
((cond (decide (240 ≤ (bt x1 x2))) (
cond (decide ((bt x1 x2) ≤ 244)) (
(F63 k x1 (IntKind.wrap .i64 (x2 + 1)) y6.1 y6.2).bind fun y22 => 
cond y22 (
(F63 k x1 (IntKind.wrap .i64 (x2 + 2)) 128 191).bind fun y23 => 
cond y23 (
(F63 k x1 (IntKind.wrap .i64 (x2 + 3)) 128 191).bind fun y24 => 
some y24) (
some false)) (
some false)) (
some false)) (
some false) : Option Bool)).bind fun y25 => 
cond y25 (
grd (decide (0 ≤ (IntKind.wrap .i64 (x2 + 1)) ∧ (IntKind.wrap .i64 (x2 + 1)) < (x1.size : Int))) <|
grd (decide (0 ≤ (IntKind.wrap .i64 (x2 + 2)) ∧ (IntKind.wrap .i64 (x2 + 2)) < (x1.size : Int))) <|
grd (decide (0 ≤ (IntKind.wrap .i64 (x2 + 3)) ∧ (IntKind.wrap .i64 (x2 + 3)) < (x1.size : Int))) <|
some ((IntKind.wrap .i64 ((IntKind.wrap .i64 ((IntKind.wrap .i64 ((IntKind.wrap .i64 ((IntKind.wrap .i64 (bits .and .u8 (bt x1 x2) 7)) * 262144)) + (IntKind.wrap .i64 ((IntKind.wrap .i64 (bits .and .u8 (bt x1 (IntKind.wrap .i64 (x2 + 1))) 63)) * 4096)))) + (IntKind.wrap .i64 ((IntKind.wrap .i64 (bits .and .u8 (bt x1 (IntKind.wrap .i64 (x2 + 2))) 63)) * 64)))) + (IntKind.wrap .i64 (bits .and .u8 (bt x1 (IntKind.wrap .i64 (x2 + 3))) 63)))), 4)) (
some (65533, 1)))))
def A50 : CTpl := ⟨[.s, .i .i64], []⟩
def h50 : List HTy := [.ts, .ti]
def R50 : List RTpl := [⟨.tp [.i .i64, .i .i64], [], [.ti, .ti]⟩]
def n50 : An := .sq (.nd) (.sq (.nd) (.sq (.sq (.nd) (.sq (.nd) (.jn [0, 1, 6] [] [(0, ⟨[(17, .b)], []⟩)] [[.tb]] (.nd) (.nd)))) (.sq (.nd) (.jn [0, 1, 6] [] [(0, ⟨[(7, .i .u8), (8, .i .u8)], []⟩)] [[.ti, .ti]] (.nd) (.sq (.jn [0, 1, 6, 7, 8] [] [(0, ⟨[(69, .b)], []⟩)] [[.tb]] (.nd) (.sq (.sq (.mk [] [0, 1, 3, 7, 0, 0, 32, 112, 240, 496, 1008, 2047, 0, 0, 8192, 28672, 61440, 126976, 262143, 524287, 1048575]) (.nd)) (.nd))) (.sq (.jn [0, 1, 6] [] [(0, ⟨[(114, .b)], []⟩)] [[.tb]] (.nd) (.sq (.sq (.mk [] [0, 1, 3, 7, 0, 0, 32, 112, 240, 496, 1008, 2047, 0, 0, 8192, 28672, 61440, 126976, 258048, 524287, 0, 0, 2097152, 7340032, 15728640, 32505856, 67108863, 134217727, 268435455]) (.nd)) (.nd))) (.nd)))))))
theorem e50 (k : Nat) (y : Tup h50) : exec (P := Tryd.prog) D (lk rowsL) [C63 k] k (bodyOf Tryd.f50) n50 (fnE Tryd.f50 A50 [] (inOf A50 (ofTup h50 y))) (fnSt [] (inOf A50 (ofTup h50 y))) (leafR D (fnE Tryd.f50 A50 [] (inOf A50 (ofTup h50 y))) Tryd.f50.results.toList (R50.map (·.h)) R50) = F50 k y.1 y.2 := by kernel_rfl
noncomputable def C50 (k : Nat) : Con Tryd.prog := ⟨50, Tryd.f50, Tryd.func50, by kernel_rfl, by kernel_rfl, A50, h50, [], R50, fun y => F50 k y.1 y.2, fun y r h => con_ok good mixed (c := bodyOf Tryd.f50) Tryd.func50 (by kernel_rfl) n50 y ((e50 k y).trans h)⟩
noncomputable def L43_8 (k : Nat) (x1 : ByteArray) (z8 : (Int × (List Int) × (List Int))) : Option ((Int × (List Int) × (List Int)) ⊕ ((List Int) × (List Int))) :=
cond (decide (z8.1 < (x1.size : Int))) (
(F50 k x1 z8.1).bind fun y9 => 
grd (decide ((z8.2.1.length + [y9.1].length) * 8 ≤ 140737488355328)) <|
grd (decide ((z8.2.2.length + [y9.2].length) * 8 ≤ 140737488355328)) <|
some (.inl ((IntKind.wrap .i64 (z8.1 + y9.2)), (z8.2.1 ++ [y9.1]), (z8.2.2 ++ [y9.2])))) (
some (.inr (z8.2.1, z8.2.2)))
noncomputable def F43 (k : Nat) (x1 : ByteArray) : Option ((List Int) × (List Int)) :=
(loopN (L43_8 k x1) k (0, ([] : List Int), ([] : List Int))).bind fun y10 => 
some (y10.1, y10.2)
def A43 : CTpl := ⟨[.s], []⟩
def h43 : List HTy := [.ts]
def R43 : List RTpl := [⟨.tp [.sl .u 500000, .sl .u 500001], [(500000, .ar 3 (.int .i64 .nil)), (500001, .ar 3 (.int .i64 .nil))], [.tl (.int .i64 .nil), .tl (.int .i64 .nil)]⟩]
def n43 : An := .sq (.nd) (.sq (.nd) (.sq (.sq (.nd) (.lp [0] [] ⟨[(4, .sl .n 300400), (5, .sl .n 300401), (6, .i .i64)], [(300400, .ar 3 (.int .i64 .nil)), (300401, .ar 3 (.int .i64 .nil))]⟩ [.ti, .tl (.int .i64 .nil), .tl (.int .i64 .nil)] [(2, ⟨[(4, .sl .n 300425), (5, .sl .n 300426)], [(300425, .ar 3 (.int .i64 .nil)), (300426, .ar 3 (.int .i64 .nil))]⟩)] [[.tl (.int .i64 .nil), .tl (.int .i64 .nil)]] (.nd))) (.nd)))
theorem e43 (k : Nat) (y : Tup h43) : exec (P := Tryd.prog) D (lk rowsL) [C50 k] k (bodyOf Tryd.f43) n43 (fnE Tryd.f43 A43 [] (inOf A43 (ofTup h43 y))) (fnSt [] (inOf A43 (ofTup h43 y))) (leafR D (fnE Tryd.f43 A43 [] (inOf A43 (ofTup h43 y))) Tryd.f43.results.toList (R43.map (·.h)) R43) = F43 k y := by kernel_rfl
noncomputable def C43 (k : Nat) : Con Tryd.prog := ⟨43, Tryd.f43, Tryd.func43, by kernel_rfl, by kernel_rfl, A43, h43, [], R43, fun y => F43 k y, fun y r h => con_ok good mixed (c := bodyOf Tryd.f43) Tryd.func43 (by kernel_rfl) n43 y ((e43 k y).trans h)⟩
noncomputable def L44_10 (k : Nat) (y2 : ((List Int) × (List Int))) (y4 : ((List Int) × (List Int))) (z40 : Int) : Option (Int ⊕ Int) :=
((cond (decide (z40 < (y2.1.length : Int))) (
cond (decide (z40 < (y4.1.length : Int))) (
(ix y2.1 z40).bind fun a41 =>
(y2.1[z40.toNat]?).bind fun a42 =>
(ix y4.1 z40).bind fun a43 =>
(y4.1[z40.toNat]?).bind fun a44 =>
some (a42 == a44)) (
some false)) (
some false) : Option Bool)).bind fun y45 => 
cond y45 (
some (.inl (IntKind.wrap .i64 (z40 + 1)))) (
some (.inr z40))
noncomputable def F44 (k : Nat) (x1 : ByteArray) (x2 : ByteArray) : Option Int :=
(F43 k x1).bind fun y2 => 
(F43 k x2).bind fun y4 => 
(loopN (L44_10 k y2 y4) k 0).bind fun y46 => 
some y46
def A44 : CTpl := ⟨[.s, .s], []⟩
def h44 : List HTy := [.ts, .ts]
def R44 : List RTpl := [⟨.i .i64, [], [.ti]⟩]
def n44 : An := .sq (.nd) (.sq (.nd) (.sq (.nd) (.sq (.nd) (.sq (.lp [5, 7] [401200, 401700] ⟨[(9, .i .i64)], []⟩ [.ti] [(2, ⟨[(9, .i .i64)], []⟩)] [[.ti]] (.sq (.jn [9] [] [(0, ⟨[(40, .b)], []⟩)] [[.tb]] (.mk [] [0, 0, 2, 7, 15, 31, 31, 95, 255, 511, 1023, 2047, 2047, 8191, 16383, 2047, 2047, 100351, 231423, 524287, 1048575]) (.nd)) (.nd))) (.nd)))))
theorem e44 (k : Nat) (y : Tup h44) : exec (P := Tryd.prog) D (lk rowsL) [C43 k] k (bodyOf Tryd.f44) n44 (fnE Tryd.f44 A44 [] (inOf A44 (ofTup h44 y))) (fnSt [] (inOf A44 (ofTup h44 y))) (leafR D (fnE Tryd.f44 A44 [] (inOf A44 (ofTup h44 y))) Tryd.f44.results.toList (R44.map (·.h)) R44) = F44 k y.1 y.2 := by kernel_rfl
noncomputable def C44 (k : Nat) : Con Tryd.prog := ⟨44, Tryd.f44, Tryd.func44, by kernel_rfl, by kernel_rfl, A44, h44, [], R44, fun y => F44 k y.1 y.2, fun y r h => con_ok good mixed (c := bodyOf Tryd.f44) Tryd.func44 (by kernel_rfl) n44 y ((e44 k y).trans h)⟩
noncomputable def F36 (k : Nat) (x1 : ByteArray) (x2 : ByteArray) : Option Int :=
(F43 k x1).bind fun y2 => 
(F43 k x2).bind fun y4 => 
(F44 k x1 x2).bind fun y6 => 
((cond (y6 == (y2.1.length : Int)) (
some (y6 == (y4.1.length : Int))) (
some false) : Option Bool)).bind fun y12 => 
cond y12 (
some 0) (
cond (y6 == (y2.1.length : Int)) (
some (-1)) (
cond (y6 == (y4.1.length : Int)) (
some 1) (
(ix y2.1 y6).bind fun a13 =>
(y2.1[y6.toNat]?).bind fun a14 =>
(ix y4.1 y6).bind fun a15 =>
(y4.1[y6.toNat]?).bind fun a16 =>
cond (decide (a14 < a16)) (
some (-1)) (
some 1))))
def A36 : CTpl := ⟨[.s, .s], []⟩
def h36 : List HTy := [.ts, .ts]
def R36 : List RTpl := [⟨.i .i64, [], [.ti]⟩]
def n36 : An := .sq (.nd) (.sq (.nd) (.sq (.nd) (.sq (.nd) (.sq (.jn [5, 7, 9] [401200, 401700] [(0, ⟨[(23, .b)], []⟩)] [[.tb]] (.nd) (.sq (.nd) (.sq (.nd) (.sq (.nd) (.sq (.nd) (.sq (.nd) (.sq (.mk [] [0, 0, 3, 7, 0, 0, 48, 112, 255, 511]) (.nd)))))))) (.nd)))))
theorem e36 (k : Nat) (y : Tup h36) : exec (P := Tryd.prog) D (lk rowsL) [C43 k, C44 k] k (bodyOf Tryd.f36) n36 (fnE Tryd.f36 A36 [] (inOf A36 (ofTup h36 y))) (fnSt [] (inOf A36 (ofTup h36 y))) (leafR D (fnE Tryd.f36 A36 [] (inOf A36 (ofTup h36 y))) Tryd.f36.results.toList (R36.map (·.h)) R36) = F36 k y.1 y.2 := by kernel_rfl
noncomputable def C36 (k : Nat) : Con Tryd.prog := ⟨36, Tryd.f36, Tryd.func36, by kernel_rfl, by kernel_rfl, A36, h36, [], R36, fun y => F36 k y.1 y.2, fun y r h => con_ok good mixed (c := bodyOf Tryd.f36) Tryd.func36 (by kernel_rfl) n36 y ((e36 k y).trans h)⟩
noncomputable def F31 (k : Nat) (x1 : ByteArray) (x2 : ByteArray) : Option Bool :=
(F36 k x1 x2).bind fun y2 => 
cond (decide (y2 < 0)) (
some true) (
cond (y2 == 0) (
some (Op.bytesLess x1.toList x2.toList)) (
some false))
def A31 : CTpl := ⟨[.s, .s], []⟩
def h31 : List HTy := [.ts, .ts]
def R31 : List RTpl := [⟨.b, [], [.tb]⟩]
def n31 : An := .nd
theorem e31 (k : Nat) (y : Tup h31) : exec (P := Tryd.prog) D (lk rowsL) [C36 k] k (bodyOf Tryd.f31) n31 (fnE Tryd.f31 A31 [] (inOf A31 (ofTup h31 y))) (fnSt [] (inOf A31 (ofTup h31 y))) (leafR D (fnE Tryd.f31 A31 [] (inOf A31 (ofTup h31 y))) Tryd.f31.results.toList (R31.map (·.h)) R31) = F31 k y.1 y.2 := by kernel_rfl
noncomputable def C31 (k : Nat) : Con Tryd.prog := ⟨31, Tryd.f31, Tryd.func31, by kernel_rfl, by kernel_rfl, A31, h31, [], R31, fun y => F31 k y.1 y.2, fun y r h => con_ok good mixed (c := bodyOf Tryd.f31) Tryd.func31 (by kernel_rfl) n31 y ((e31 k y).trans h)⟩
noncomputable def L25_21 (k : Nat) (x1 : (List ByteArray)) (z115 : (Int × (List ByteArray))) (z116 : Int) : Option (Int ⊕ Int) :=
((cond (decide (z116 < (z115.2.length : Int))) (
(ix z115.2 z116).bind fun a117 =>
(z115.2[z116.toNat]?).bind fun a118 =>
(ix x1 z115.1).bind fun a119 =>
(F31 k a118 a119).bind fun y120 => 
some y120) (
some false) : Option Bool)).bind fun y121 => 
cond y121 (
some (.inl (IntKind.wrap .i64 (z116 + 1)))) (
some (.inr z116))
noncomputable def L25_8 (k : Nat) (x1 : (List ByteArray)) (z115 : (Int × (List ByteArray))) : Option ((Int × (List ByteArray)) ⊕ (List ByteArray)) :=
cond (decide (z115.1 < (x1.length : Int))) (
(((loopN (L25_21 k x1 z115) k 0).bind fun y122 => 
((cond (decide (y122 < (z115.2.length : Int))) (
(ix z115.2 y122).bind fun a123 =>
(z115.2[y122.toNat]?).bind fun a124 =>
(ix x1 z115.1).bind fun a125 =>
some (a124.toList == a125.toList)) (
some false) : Option Bool)).bind fun y126 => 
cond y126 (
some z115.2) (
grd (bnds (z115.2.length : Int) 0 y122) <|
grd (decide ((([] : List ByteArray).length + ((z115.2.drop 0).take (y122.toNat - 0)).length) * 16 ≤ 140737488355328)) <|
(ix x1 z115.1).bind fun a127 =>
grd (decide (((([] : List ByteArray) ++ ((z115.2.drop 0).take (y122.toNat - 0))).length + [a127].length) * 16 ≤ 140737488355328)) <|
grd (bnds (z115.2.length : Int) y122 (z115.2.length : Int)) <|
grd (decide ((((([] : List ByteArray) ++ ((z115.2.drop 0).take (y122.toNat - 0))) ++ [a127]).length + ((z115.2.drop y122.toNat).take (((z115.2.length : Int).toNat) - y122.toNat)).length) * 16 ≤ 140737488355328)) <|
some (((([] : List ByteArray) ++ ((z115.2.drop 0).take (y122.toNat - 0))) ++ [a127]) ++ ((z115.2.drop y122.toNat).take (((z115.2.length : Int).toNat) - y122.toNat)))) : Option (List ByteArray))).bind fun y128 => 
some (.inl ((IntKind.wrap .i64 (z115.1 + 1)), y128))) (
some (.inr z115.2))
noncomputable def F25 (k : Nat) (x1 : (List ByteArray)) : Option (List ByteArray) :=
(loopN (L25_8 k x1) k (0, ([] : List ByteArray))).bind fun y129 => 
some y129
def A25 : CTpl := ⟨[.fz .u (.str .nil)], []⟩
def h25 : List HTy := [.tl (.str .nil)]
def R25 : List RTpl := [⟨.sl .u 500000, [(500000, .ar 9 (.str .nil))], [.tl (.str .nil)]⟩]
def n25 : An := .sq (.nd) (.sq (.nd) (.sq (.sq (.nd) (.lp [0] [] ⟨[(3, .sl .n 300400), (4, .i .i64)], [(300400, .ar 9 (.str .nil))]⟩ [.ti, .tl (.str .nil)] [(2, ⟨[(3, .sl .n 300425)], [(300425, .ar 9 (.str .nil))]⟩)] [[.tl (.str .nil)]] (.sq (.nd) (.jn [4] [] [(0, ⟨[(3, .sl .n 300750)], [(300750, .ar 9 (.str .nil))]⟩)] [[.tl (.str .nil)]] (.sq (.nd) (.sq (.lp [3] [300400] ⟨[(5, .i .i64)], []⟩ [.ti] [(4, ⟨[(5, .i .i64)], []⟩)] [[.ti]] (.sq (.jn [5] [] [(0, ⟨[(26, .b)], []⟩)] [[.tb]] (.mk [] [0, 0, 2, 7, 15, 31, 31, 127, 255, 31, 31, 1567, 3615, 8191, 16383]) (.nd)) (.nd))) (.sq (.jn [3, 5] [300400] [(0, ⟨[(43, .b)], []⟩)] [[.tb]] (.mk [] [0, 0, 2, 7, 15, 31, 31, 127, 255, 31, 31, 1567, 3615, 8191, 16383]) (.nd)) (.mk [] [0, 0, 3, 7, 0, 0, 48, 112, 240, 511, 0, 0, 3072, 8191, 16383])))) (.nd))))) (.nd)))
theorem e25 (k : Nat) (y : Tup h25) : exec (P := Tryd.prog) D (lk rowsL) [C31 k] k (bodyOf Tryd.f25) n25 (fnE Tryd.f25 A25 [] (inOf A25 (ofTup h25 y))) (fnSt [] (inOf A25 (ofTup h25 y))) (leafR D (fnE Tryd.f25 A25 [] (inOf A25 (ofTup h25 y))) Tryd.f25.results.toList (R25.map (·.h)) R25) = F25 k y := by kernel_rfl
noncomputable def C25 (k : Nat) : Con Tryd.prog := ⟨25, Tryd.f25, Tryd.func25, by kernel_rfl, by kernel_rfl, A25, h25, [], R25, fun y => F25 k y, fun y r h => con_ok good mixed (c := bodyOf Tryd.f25) Tryd.func25 (by kernel_rfl) n25 y ((e25 k y).trans h)⟩
noncomputable def L35_8 (k : Nat) (x1 : (List (ByteArray × Bool × ByteArray))) (z8 : (Int × (List ByteArray))) : Option ((Int × (List ByteArray)) ⊕ (List ByteArray)) :=
cond (decide (z8.1 < (x1.length : Int))) (
(ix x1 z8.1).bind fun a9 =>
grd (decide ((z8.2.length + [a9.1].length) * 16 ≤ 140737488355328)) <|
some (.inl ((IntKind.wrap .i64 (z8.1 + 1)), (z8.2 ++ [a9.1])))) (
some (.inr z8.2))
noncomputable def F35 (k : Nat) (x1 : (List (ByteArray × Bool × ByteArray))) : Option (List ByteArray) :=
(loopN (L35_8 k x1) k (0, ([] : List ByteArray))).bind fun y10 => 
(F25 k y10).bind fun y11 => 
some y11
def A35 : CTpl := ⟨[.fz .u (.str (.bool (.str .nil)))], []⟩
def h35 : List HTy := [.tl (.str (.bool (.str .nil)))]
def R35 : List RTpl := [⟨.sl .u 500000, [(500000, .ar 9 (.str .nil))], [.tl (.str .nil)]⟩]
def n35 : An := .sq (.nd) (.sq (.nd) (.sq (.sq (.nd) (.lp [0] [] ⟨[(3, .sl .n 300400), (4, .i .i64)], [(300400, .ar 9 (.str .nil))]⟩ [.ti, .tl (.str .nil)] [(2, ⟨[(3, .sl .n 300425)], [(300425, .ar 9 (.str .nil))]⟩)] [[.tl (.str .nil)]] (.nd))) (.sq (.fr [(1, 300425)]) (.nd))))
theorem e35 (k : Nat) (y : Tup h35) : exec (P := Tryd.prog) D (lk rowsL) [C25 k] k (bodyOf Tryd.f35) n35 (fnE Tryd.f35 A35 [] (inOf A35 (ofTup h35 y))) (fnSt [] (inOf A35 (ofTup h35 y))) (leafR D (fnE Tryd.f35 A35 [] (inOf A35 (ofTup h35 y))) Tryd.f35.results.toList (R35.map (·.h)) R35) = F35 k y := by kernel_rfl
noncomputable def C35 (k : Nat) : Con Tryd.prog := ⟨35, Tryd.f35, Tryd.func35, by kernel_rfl, by kernel_rfl, A35, h35, [], R35, fun y => F35 k y, fun y r h => con_ok good mixed (c := bodyOf Tryd.f35) Tryd.func35 (by kernel_rfl) n35 y ((e35 k y).trans h)⟩
noncomputable def L14_6 (k : Nat) (x1 : (List (ByteArray × Bool × ByteArray))) (x2 : ByteArray) (z13 : (Int × ByteArray × ByteArray)) : Option ((Int × ByteArray × ByteArray) ⊕ ((ByteArray × Bool × ByteArray) ⊕ (ByteArray × ByteArray))) :=
cond (decide (0 ≤ z13.1)) (
(ix x1 z13.1).bind fun a14 =>
cond (a14.1.toList == x2.toList) (
(ix x1 z13.1).bind fun a15 =>
some (.inr (.inl (a15.1, a15.2.1, a15.2.2)))) (
some (.inl ((IntKind.wrap .i64 (z13.1 - 1)), z13.2.1, z13.2.2)))) (
some (.inr (.inr (z13.2.1, z13.2.2))))
noncomputable def F14 (k : Nat) (x1 : (List (ByteArray × Bool × ByteArray))) (x2 : ByteArray) : Option (ByteArray × Bool × ByteArray × Bool) :=
(loopN (L14_6 k x1 x2) k ((IntKind.wrap .i64 ((x1.length : Int) - 1)), ByteArray.empty, ByteArray.empty)).bind fun y16 => 
sel (fun y17 =>
some (y17.1, y17.2.1, y17.2.2, true)) (fun y18 =>
some (ByteArray.empty, false, ByteArray.empty, false)) y16
def A14 : CTpl := ⟨[.fz .u (.str (.bool (.str .nil))), .s], []⟩
def h14 : List HTy := [.tl (.str (.bool (.str .nil))), .ts]
def R14 : List RTpl := [⟨.tp [.ag [.s, .b, .s], .b], [], [.ts, .tb, .ts, .tb]⟩]
def n14 : An := .sq (.nd) (.sq (.sq (.nd) (.lp [0, 1, 4] [] ⟨[(6, .i .i64)], [(4, .bx 40 [.s, .lb false, .s])]⟩ [.ti, .ts, .ts] [(1, ⟨[(5, .lb true)], [(4, .bx 40 [.s, .b, .s])]⟩), (2, ⟨[], [(4, .bx 40 [.s, .lb false, .s])]⟩)] [[.ts, .tb, .ts], [.ts, .ts]] (.nd))) (.nd))
theorem e14 (k : Nat) (y : Tup h14) : exec (P := Tryd.prog) D (lk rowsL) [] k (bodyOf Tryd.f14) n14 (fnE Tryd.f14 A14 [] (inOf A14 (ofTup h14 y))) (fnSt [] (inOf A14 (ofTup h14 y))) (leafR D (fnE Tryd.f14 A14 [] (inOf A14 (ofTup h14 y))) Tryd.f14.results.toList (R14.map (·.h)) R14) = F14 k y.1 y.2 := by kernel_rfl
noncomputable def C14 (k : Nat) : Con Tryd.prog := ⟨14, Tryd.f14, Tryd.func14, by kernel_rfl, by kernel_rfl, A14, h14, [], R14, fun y => F14 k y.1 y.2, fun y r h => con_ok good mixed (c := bodyOf Tryd.f14) Tryd.func14 (by kernel_rfl) n14 y ((e14 k y).trans h)⟩
noncomputable def L27_10 (k : Nat) (x1 : (List (ByteArray × Bool × ByteArray))) (y2 : (List ByteArray)) (z31 : (Int × (List (ByteArray × Bool × ByteArray)))) : Option ((Int × (List (ByteArray × Bool × ByteArray))) ⊕ (List (ByteArray × Bool × ByteArray))) :=
cond (decide (z31.1 < (y2.length : Int))) (
(ix y2 z31.1).bind fun a32 =>
(y2[z31.1.toNat]?).bind fun a33 =>
(F14 k x1 a33).bind fun y34 => 
((cond y34.2.1 (
some (y34.1, y34.2.1, (⟨#[]⟩ : ByteArray))) (
some (y34.1, y34.2.1, y34.2.2.1)) : Option (ByteArray × Bool × ByteArray))).bind fun y35 => 
grd (decide ((z31.2.length + [(y35.1, y35.2.1, y35.2.2)].length) * 40 ≤ 140737488355328)) <|
some (.inl ((IntKind.wrap .i64 (z31.1 + 1)), (z31.2 ++ [(y35.1, y35.2.1, y35.2.2)])))) (
some (.inr z31.2))
noncomputable def F27 (k : Nat) (x1 : (List (ByteArray × Bool × ByteArray))) : Option (List (ByteArray × Bool × ByteArray)) :=
(F35 k x1).bind fun y2 => 
(loopN (L27_10 k x1 y2) k (0, ([] : List (ByteArray × Bool × ByteArray)))).bind fun y36 => 
some y36
def A27 : CTpl := ⟨[.fz .u (.str (.bool (.str .nil)))], []⟩
def h27 : List HTy := [.tl (.str (.bool (.str .nil)))]
def R27 : List RTpl := [⟨.sl .u 500000, [(500000, .ar 40 (.str (.bool (.str .nil))))], [.tl (.str (.bool (.str .nil)))]⟩]
def n27 : An := .sq (.nd) (.sq (.nd) (.sq (.nd) (.sq (.sq (.nd) (.lp [0, 3] [400900] ⟨[(4, .sl .n 300500), (5, .i .i64)], [(300500, .ar 40 (.str (.bool (.str .nil))))]⟩ [.ti, .tl (.str (.bool (.str .nil)))] [(2, ⟨[(4, .sl .n 300525)], [(300525, .ar 40 (.str (.bool (.str .nil))))]⟩)] [[.tl (.str (.bool (.str .nil)))]] (.sq (.nd) (.sq (.sq (.nd) (.jn [4, 5, 6] [300500] [(0, ⟨[], [(6, .bx 40 [.s, .b, .s])]⟩)] [[.ts, .tb, .ts]] (.nd) (.nd))) (.nd))))) (.nd))))
theorem e27 (k : Nat) (y : Tup h27) : exec (P := Tryd.prog) D (lk rowsL) [C35 k, C14 k] k (bodyOf Tryd.f27) n27 (fnE Tryd.f27 A27 [] (inOf A27 (ofTup h27 y))) (fnSt [] (inOf A27 (ofTup h27 y))) (leafR D (fnE Tryd.f27 A27 [] (inOf A27 (ofTup h27 y))) Tryd.f27.results.toList (R27.map (·.h)) R27) = F27 k y := by kernel_rfl
noncomputable def C27 (k : Nat) : Con Tryd.prog := ⟨27, Tryd.f27, Tryd.func27, by kernel_rfl, by kernel_rfl, A27, h27, [], R27, fun y => F27 k y, fun y r h => con_ok good mixed (c := bodyOf Tryd.f27) Tryd.func27 (by kernel_rfl) n27 y ((e27 k y).trans h)⟩
noncomputable def L9_8 (k : Nat) (x1 : (List (Int × Bool × ByteArray))) (x2 : Int) (z55 : (Int × (List (ByteArray × Bool × ByteArray)))) : Option ((Int × (List (ByteArray × Bool × ByteArray))) ⊕ (List (ByteArray × Bool × ByteArray))) :=
((cond (decide (z55.1 < (x1.length : Int))) (
some (decide (z55.1 < x2))) (
some false) : Option Bool)).bind fun y56 => 
cond y56 (
(ix x1 z55.1).bind fun a57 =>
(F10 k a57.1).bind fun y58 => 
(ix x1 z55.1).bind fun a59 =>
((cond (!a59.2.1) (
(ix x1 z55.1).bind fun a60 =>
(ix x1 z55.1).bind fun a61 =>
(F26 k a60.2.2 (IntKind.wrap .i64 (a61.1.tdiv 12))).bind fun y62 => 
some (y58, a59.2.1, y62)) (
some (y58, a59.2.1, ByteArray.empty)) : Option (ByteArray × Bool × ByteArray))).bind fun y63 => 
grd (decide ((z55.2.length + [(y63.1, y63.2.1, y63.2.2)].length) * 40 ≤ 140737488355328)) <|
some (.inl ((IntKind.wrap .i64 (z55.1 + 1)), (z55.2 ++ [(y63.1, y63.2.1, y63.2.2)])))) (
some (.inr z55.2))
noncomputable def F9 (k : Nat) (x1 : (List (Int × Bool × ByteArray))) (x2 : Int) : Option (List (ByteArray × Bool × ByteArray)) :=
(loopN (L9_8 k x1 x2) k (0, ([] : List (ByteArray × Bool × ByteArray)))).bind fun y64 => 
((cond ((y64.length : Int) == 0) (
some [((⟨#[97]⟩ : ByteArray), false, (⟨#[49]⟩ : ByteArray))]) (
some y64) : Option (List (ByteArray × Bool × ByteArray)))).bind fun y65 => 
(F27 k y65).bind fun y66 => 
some y66
def A9 : CTpl := ⟨[.fz .u (.int .i64 (.bool (.str .nil))), .i .i64], []⟩
def h9 : List HTy := [.tl (.int .i64 (.bool (.str .nil))), .ti]
def R9 : List RTpl := [⟨.sl .u 500000, [(500000, .ar 40 (.str (.bool (.str .nil))))], [.tl (.str (.bool (.str .nil)))]⟩]
def n9 : An := .sq (.nd) (.sq (.nd) (.sq (.sq (.nd) (.lp [0, 1] [] ⟨[(5, .sl .n 300400), (6, .i .i64)], [(300400, .ar 40 (.str (.bool (.str .nil))))]⟩ [.ti, .tl (.str (.bool (.str .nil)))] [(2, ⟨[(5, .sl .n 300425)], [(300425, .ar 40 (.str (.bool (.str .nil))))]⟩)] [[.tl (.str (.bool (.str .nil)))]] (.sq (.jn [5, 6] [300400] [(0, ⟨[(16, .b)], []⟩)] [[.tb]] (.nd) (.nd)) (.sq (.sq (.mk [] [0, 0, 3, 7, 15, 31, 0, 0, 192, 448, 960, 2047, 0, 8191]) (.jn [5, 6, 7] [300400] [(0, ⟨[], [(7, .bx 40 [.s, .b, .s])]⟩)] [[.ts, .tb, .ts]] (.sq (.nd) (.sq (.mk [] [0, 0, 3, 7, 15, 0, 0, 96, 224, 480, 992, 2047, 4095, 8191]) (.nd))) (.nd))) (.nd))))) (.jn [] [] [(0, ⟨[(5, .sl .u 301350)], [(301350, .ar 40 (.str (.bool (.str .nil))))]⟩)] [[.tl (.str (.bool (.str .nil)))]] (.nd) (.sq (.fr [(1, 301350)]) (.nd)))))
theorem e9 (k : Nat) (y : Tup h9) : exec (P := Tryd.prog) D (lk rowsL) [C10 k, C26 k, C27 k] k (bodyOf Tryd.f9) n9 (fnE Tryd.f9 A9 [] (inOf A9 (ofTup h9 y))) (fnSt [] (inOf A9 (ofTup h9 y))) (leafR D (fnE Tryd.f9 A9 [] (inOf A9 (ofTup h9 y))) Tryd.f9.results.toList (R9.map (·.h)) R9) = F9 k y.1 y.2 := by kernel_rfl
noncomputable def C9 (k : Nat) : Con Tryd.prog := ⟨9, Tryd.f9, Tryd.func9, by kernel_rfl, by kernel_rfl, A9, h9, [], R9, fun y => F9 k y.1 y.2, fun y r h => con_ok good mixed (c := bodyOf Tryd.f9) Tryd.func9 (by kernel_rfl) n9 y ((e9 k y).trans h)⟩
noncomputable def L12_8 (k : Nat) (x1 : (List Int)) (x2 : Int) (z18 : (Int × (List ByteArray))) : Option ((Int × (List ByteArray)) ⊕ (List ByteArray)) :=
((cond (decide (z18.1 < (x1.length : Int))) (
some (decide (z18.1 < x2))) (
some false) : Option Bool)).bind fun y19 => 
cond y19 (
(ix x1 z18.1).bind fun a20 =>
(F10 k a20).bind fun y21 => 
grd (decide ((z18.2.length + [y21].length) * 16 ≤ 140737488355328)) <|
some (.inl ((IntKind.wrap .i64 (z18.1 + 1)), (z18.2 ++ [y21])))) (
some (.inr z18.2))
noncomputable def F12 (k : Nat) (x1 : (List Int)) (x2 : Int) : Option (List ByteArray) :=
(loopN (L12_8 k x1 x2) k (0, ([] : List ByteArray))).bind fun y22 => 
some y22
def A12 : CTpl := ⟨[.fz .u (.int .i64 .nil), .i .i64], []⟩
def h12 : List HTy := [.tl (.int .i64 .nil), .ti]
def R12 : List RTpl := [⟨.sl .u 500000, [(500000, .ar 9 (.str .nil))], [.tl (.str .nil)]⟩]
def n12 : An := .sq (.nd) (.sq (.nd) (.sq (.sq (.nd) (.lp [0, 1] [] ⟨[(5, .sl .n 300400), (6, .i .i64)], [(300400, .ar 9 (.str .nil))]⟩ [.ti, .tl (.str .nil)] [(2, ⟨[(5, .sl .n 300425)], [(300425, .ar 9 (.str .nil))]⟩)] [[.tl (.str .nil)]] (.sq (.jn [5, 6] [300400] [(0, ⟨[(15, .b)], []⟩)] [[.tb]] (.nd) (.nd)) (.nd)))) (.nd)))
theorem e12 (k : Nat) (y : Tup h12) : exec (P := Tryd.prog) D (lk rowsL) [C10 k] k (bodyOf Tryd.f12) n12 (fnE Tryd.f12 A12 [] (inOf A12 (ofTup h12 y))) (fnSt [] (inOf A12 (ofTup h12 y))) (leafR D (fnE Tryd.f12 A12 [] (inOf A12 (ofTup h12 y))) Tryd.f12.results.toList (R12.map (·.h)) R12) = F12 k y.1 y.2 := by kernel_rfl
noncomputable def C12 (k : Nat) : Con Tryd.prog := ⟨12, Tryd.f12, Tryd.func12, by kernel_rfl, by kernel_rfl, A12, h12, [], R12, fun y => F12 k y.1 y.2, fun y r h => con_ok good mixed (c := bodyOf Tryd.f12) Tryd.func12 (by kernel_rfl) n12 y ((e12 k y).trans h)⟩
noncomputable def L14_1_6 (k : Nat) (x1 : ByteArray) (x2 : (List (ByteArray × Bool × ByteArray))) (z21 : (Int × ByteArray × ByteArray)) : Option ((Int × ByteArray × ByteArray) ⊕ ((ByteArray × Bool × ByteArray) ⊕ (ByteArray × ByteArray))) :=
cond (decide (0 ≤ z21.1)) (
(ix x2 z21.1).bind fun a22 =>
(x2[z21.1.toNat]?).bind fun a23 =>
cond (a23.1.toList == x1.toList) (
(ix x2 z21.1).bind fun a24 =>
(x2[z21.1.toNat]?).bind fun a25 =>
some (.inr (.inl (a25.1, a25.2.1, a25.2.2)))) (
some (.inl ((IntKind.wrap .i64 (z21.1 - 1)), z21.2.1, z21.2.2)))) (
some (.inr (.inr (z21.2.1, z21.2.2))))
noncomputable def F14_1 (k : Nat) (x1 : ByteArray) (x2 : (List (ByteArray × Bool × ByteArray))) : Option (ByteArray × Bool × ByteArray × Bool) :=
(loopN (L14_1_6 k x1 x2) k ((IntKind.wrap .i64 ((x2.length : Int) - 1)), ByteArray.empty, ByteArray.empty)).bind fun y26 => 
sel (fun y27 =>
some (y27.1, y27.2.1, y27.2.2, true)) (fun y28 =>
some (ByteArray.empty, false, ByteArray.empty, false)) y26
def A14_1 : CTpl := ⟨[.sl .u 1000000, .s], [(1000000, .ar 40 (.str (.bool (.str .nil))))]⟩
def h14_1 : List HTy := [.ts, .tl (.str (.bool (.str .nil)))]
def R14_1 : List RTpl := [⟨.tp [.ag [.s, .b, .s], .b], [], [.ts, .tb, .ts, .tb]⟩]
def n14_1 : An := .sq (.nd) (.sq (.sq (.nd) (.lp [0, 1, 4] [] ⟨[(6, .i .i64)], [(4, .bx 40 [.s, .lb false, .s])]⟩ [.ti, .ts, .ts] [(1, ⟨[(5, .lb true)], [(4, .bx 40 [.s, .b, .s])]⟩), (2, ⟨[], [(4, .bx 40 [.s, .lb false, .s])]⟩)] [[.ts, .tb, .ts], [.ts, .ts]] (.nd))) (.nd))
theorem e14_1 (k : Nat) (y : Tup h14_1) : exec (P := Tryd.prog) D (lk rowsL) [] k (bodyOf Tryd.f14) n14_1 (fnE Tryd.f14 A14_1 [1000000] (inOf A14_1 (ofTup h14_1 y))) (fnSt [1000000] (inOf A14_1 (ofTup h14_1 y))) (leafR D (fnE Tryd.f14 A14_1 [1000000] (inOf A14_1 (ofTup h14_1 y))) Tryd.f14.results.toList (R14_1.map (·.h)) R14_1) = F14_1 k y.1 y.2 := by kernel_rfl
noncomputable def C14_1 (k : Nat) : Con Tryd.prog := ⟨14, Tryd.f14, Tryd.func14, by kernel_rfl, by kernel_rfl, A14_1, h14_1, [1000000], R14_1, fun y => F14_1 k y.1 y.2, fun y r h => con_ok good mixed (c := bodyOf Tryd.f14) Tryd.func14 (by kernel_rfl) n14_1 y ((e14_1 k y).trans h)⟩
noncomputable def L3_20 (k : Nat) (z19 : (Int × (List ByteArray))) : Option ((Int × (List ByteArray)) ⊕ (List ByteArray)) :=
cond (decide (z19.1 < 12)) (
(F10 k z19.1).bind fun y20 => 
grd (decide ((z19.2.length + [y20].length) * 16 ≤ 140737488355328)) <|
some (.inl ((IntKind.wrap .i64 (z19.1 + 1)), (z19.2 ++ [y20])))) (
some (.inr z19.2))
noncomputable def L3_70 (k : Nat) (y21 : (List ByteArray)) (y25 : (List ByteArray)) (z339 : Int) (z340 : (Bool × Int)) : Option ((Bool × Int) ⊕ Bool) :=
cond (decide (z340.2 < (y25.length : Int))) (
((cond z340.1 (
some true) (
(ix y25 z340.2).bind fun a341 =>
(ix y21 z339).bind fun a342 =>
some (a341.toList == a342.toList)) : Option Bool)).bind fun y343 => 
some (.inl (y343, (IntKind.wrap .i64 (z340.2 + 1))))) (
some (.inr z340.1))
noncomputable def L3_55 (k : Nat) (x3 : (List (Int × Bool × ByteArray))) (y21 : (List ByteArray)) (y23 : (List (ByteArray × Bool × ByteArray × Int))) (y25 : (List ByteArray)) (y29 : (List (ByteArray × Bool × ByteArray × Int))) (y35 : (List (ByteArray × Bool × ByteArray × Int))) (z339 : Int) : Option (Int ⊕ (Unit ⊕ Unit)) :=
cond (decide (z339 < 12)) (
(loopN (L3_70 k y21 y25 z339) k (false, 0)).bind fun y344 => 
((cond y344 (
(ix y29 z339).bind fun a345 =>
(y29[z339.toNat]?).bind fun a346 =>
(ix y21 z339).bind fun a347 =>
cond (!((a346.1.toList == a347.toList) && ((a346.2.1 == false) && ((a346.2.2.1.toList == ByteArray.empty.toList) && ((a346.2.2.2 == 0) && true))))) (
some true) (
cond (!y344) (
(ix y29 z339).bind fun a348 =>
(y29[z339.toNat]?).bind fun a349 =>
(ix y23 z339).bind fun a350 =>
(y23[z339.toNat]?).bind fun a351 =>
some (!((a349.1.toList == a351.1.toList) && ((a349.2.1 == a351.2.1) && ((a349.2.2.1.toList == a351.2.2.1.toList) && ((a349.2.2.2 == a351.2.2.2) && true)))))) (
some false))) (
cond (!y344) (
(ix y29 z339).bind fun a352 =>
(y29[z339.toNat]?).bind fun a353 =>
(ix y23 z339).bind fun a354 =>
(y23[z339.toNat]?).bind fun a355 =>
some (!((a353.1.toList == a355.1.toList) && ((a353.2.1 == a355.2.1) && ((a353.2.2.1.toList == a355.2.2.1.toList) && ((a353.2.2.2 == a355.2.2.2) && true)))))) (
some false)) : Option Bool)).bind fun y356 => 
cond y356 (
some (.inr (.inl ()))) (
(F9 k x3 8).bind fun y357 => 
(ix y21 z339).bind fun a358 =>
(F14_1 k a358 y357).bind fun y359 => 
((cond (!y359.2.2.2) (
(ix y35 z339).bind fun a360 =>
(y35[z339.toNat]?).bind fun a361 =>
(ix y29 z339).bind fun a362 =>
(y29[z339.toNat]?).bind fun a363 =>
cond (!((a361.1.toList == a363.1.toList) && ((a361.2.1 == a363.2.1) && ((a361.2.2.1.toList == a363.2.2.1.toList) && ((a361.2.2.2 == a363.2.2.2) && true))))) (
some true) (
cond y359.2.2.2 (
(ix y35 z339).bind fun a364 =>
(y35[z339.toNat]?).bind fun a365 =>
cond (a365.2.1 == y359.2.1) (
some true) (
cond (!y359.2.1) (
(ix y35 z339).bind fun a366 =>
(y35[z339.toNat]?).bind fun a367 =>
cond (!(a367.2.2.1.toList == y359.2.2.1.toList)) (
some true) (
(ix y35 z339).bind fun a368 =>
(y35[z339.toNat]?).bind fun a369 =>
some (a369.2.2.2 != 9))) (
some false))) (
some false))) (
cond y359.2.2.2 (
(ix y35 z339).bind fun a370 =>
(y35[z339.toNat]?).bind fun a371 =>
cond (a371.2.1 == y359.2.1) (
some true) (
cond (!y359.2.1) (
(ix y35 z339).bind fun a372 =>
(y35[z339.toNat]?).bind fun a373 =>
cond (!(a373.2.2.1.toList == y359.2.2.1.toList)) (
some true) (
(ix y35 z339).bind fun a374 =>
(y35[z339.toNat]?).bind fun a375 =>
some (a375.2.2.2 != 9))) (
some false))) (
some false)) : Option Bool)).bind fun y376 => 
cond y376 (
some (.inr (.inl ()))) (
some (.inl (IntKind.wrap .i64 (z339 + 1)))))) (
some (.inr (.inr ())))
noncomputable def F3 (k : Nat) (x1 : (List (Int × Bool × ByteArray))) (x2 : (List Int)) (x3 : (List (Int × Bool × ByteArray))) : Option Bool :=
(F6 k).bind fun y2 => 
(((F7 k).bind fun y6 => 
cond (!y6) (
some true) (
some false) : Option Bool)).bind fun y7 => 
cond y7 (
some false) (
(F9 k x1 8).bind fun y10 => 
(F8 k 7 y10 y2).bind fun y11 => 
(loopN (L3_20 k) k (0, ([] : List ByteArray))).bind fun y21 => 
(F11 k y21 y11).bind fun y23 => 
(F12 k x2 6).bind fun y25 => 
(F13 k y25 y11).bind fun y27 => 
(F11 k y21 y27).bind fun y29 => 
(F9 k x3 8).bind fun y32 => 
(F8 k 9 y32 y27).bind fun y33 => 
(F11 k y21 y33).bind fun y35 => 
((cond ((y23.length : Int) != 12) (
some true) (
cond ((y29.length : Int) != 12) (
some true) (
some ((y35.length : Int) != 12))) : Option Bool)).bind fun y37 => 
cond y37 (
some false) (
(loopN (L3_55 k x3 y21 y23 y25 y29 y35) k 0).bind fun y377 => 
sel (fun y378 =>
some false) (fun y379 =>
some true) y377))
def A3 : CTpl := ⟨[.fz .u (.int .i64 (.bool (.str .nil))), .fz .u (.int .i64 .nil), .fz .u (.int .i64 (.bool (.str .nil)))], []⟩
def h3 : List HTy := [.tl (.int .i64 (.bool (.str .nil))), .tl (.int .i64 .nil), .tl (.int .i64 (.bool (.str .nil)))]
def R3 : List RTpl := [⟨.b, [], [.tb]⟩]
def n3 : An := .sq (.nd) (.sq (.nd) (.sq (.jn [0, 1, 2, 7] [401900, 401901] [(0, ⟨[(25, .b)], []⟩)] [[.tb]] (.nd) (.nd)) (.sq (.fr [(3, 402800)]) (.sq (.nd) (.sq (.sq (.nd) (.lp [1, 2, 7] [401900, 401901] ⟨[(8, .sl .n 301000), (9, .i .i64)], [(301000, .ar 9 (.str .nil))]⟩ [.ti, .tl (.str .nil)] [(2, ⟨[(8, .sl .n 301025)], [(301025, .ar 9 (.str .nil))]⟩)] [[.tl (.str .nil)]] (.nd))) (.sq (.fr [(2, 301025)]) (.sq (.nd) (.sq (.fr [(2, 404300)]) (.sq (.nd) (.sq (.fr [(3, 405200)]) (.sq (.nd) (.sq (.jn [2, 8, 10, 11, 12, 13] [404100, 404900, 405600] [(0, ⟨[(69, .b)], []⟩)] [[.tb]] (.nd) (.nd)) (.sq (.sq (.nd) (.lp [2, 8, 10, 11, 12, 13] [404100, 404900, 405600] ⟨[(14, .i .i64)], []⟩ [.ti] [(1, ⟨[(6, .lb false)], []⟩), (4, ⟨[], []⟩)] [[], []] (.sq (.nd) (.sq (.sq (.nd) (.sq (.sq (.nd) (.lp [14] [] ⟨[(15, .b), (16, .i .i64)], []⟩ [.tb, .ti] [(6, ⟨[(15, .b)], []⟩)] [[.tb]] (.sq (.nd) (.jn [16] [] [(0, ⟨[(15, .b)], []⟩)] [[.tb]] (.mk [] [0, 1, 3, 3, 15, 31, 3, 3, 195, 451, 1023, 2047, 4095]) (.nd))))) (.sq (.jn [14] [] [(0, ⟨[(119, .b)], []⟩)] [[.tb]] (.mk [] [0, 1, 3, 3, 15, 31, 3, 3, 195, 451, 963, 2047, 4095, 8191, 16383, 32767, 65535, 131071, 131071, 524287, 1048575, 131071, 131071, 6422527, 14811135, 33554431, 67108863, 134217727]) (.nd)) (.sq (.mk [] [0, 1, 0, 0, 12, 28, 63, 127, 255, 255, 0, 1535, 4095]) (.jn [14] [] [(0, ⟨[(178, .b)], []⟩)] [[.tb]] (.mk [] [0, 1, 3, 7, 7, 31, 63, 7, 7, 391, 903, 2047, 4095, 8191, 16383, 32767, 65535, 65535, 262143, 524287, 1048575, 65535, 2162687, 8388607, 16777215, 33554431, 67108863, 134217727, 268435455, 536870911, 536870911, 2147483647, 4294967295, 8589934591, 536870911, 17716740095, 68719476735, 137438953471, 274877906943, 274877906943, 1099511627775, 2199023255551, 4398046511103, 8796093022207, 17592186044415, 35184372088831, 70368744177663, 140737488355327, 281474976710655]) (.nd)))))) (.nd))))) (.nd))))))))))))))
theorem e3 (k : Nat) (y : Tup h3) : exec (P := Tryd.prog) D (lk rowsL) [C6 k, C7 k, C9 k, C8 k, C10 k, C11 k, C12 k, C13 k, C14_1 k] k (bodyOf Tryd.f3) n3 (fnE Tryd.f3 A3 [] (inOf A3 (ofTup h3 y))) (fnSt [] (inOf A3 (ofTup h3 y))) (leafR D (fnE Tryd.f3 A3 [] (inOf A3 (ofTup h3 y))) Tryd.f3.results.toList (R3.map (·.h)) R3) = F3 k y.1 y.2.1 y.2.2 := by kernel_rfl
noncomputable def C3 (k : Nat) : Con Tryd.prog := ⟨3, Tryd.f3, Tryd.func3, by kernel_rfl, by kernel_rfl, A3, h3, [], R3, fun y => F3 k y.1 y.2.1 y.2.2, fun y r h => con_ok good mixed (c := bodyOf Tryd.f3) Tryd.func3 (by kernel_rfl) n3 y ((e3 k y).trans h)⟩
noncomputable def L28_8 (k : Nat) (x1 : (List ByteArray)) (x2 : Int) (x3 : Int) (z18 : (Int × (List ByteArray))) : Option ((Int × (List ByteArray)) ⊕ (List ByteArray)) :=
((cond (decide (z18.1 < (x1.length : Int))) (
some (decide (z18.1 < x2))) (
some false) : Option Bool)).bind fun y19 => 
cond y19 (
(ix x1 z18.1).bind fun a20 =>
(F34 k a20 x3).bind fun y21 => 
grd (decide ((z18.2.length + [y21].length) * 16 ≤ 140737488355328)) <|
some (.inl ((IntKind.wrap .i64 (z18.1 + 1)), (z18.2 ++ [y21])))) (
some (.inr z18.2))
noncomputable def F28 (k : Nat) (x1 : (List ByteArray)) (x2 : Int) (x3 : Int) : Option (List ByteArray) :=
(loopN (L28_8 k x1 x2 x3) k (0, ([] : List ByteArray))).bind fun y22 => 
some y22
def A28 : CTpl := ⟨[.fz .u (.str .nil), .i .i64, .i .i64], []⟩
def h28 : List HTy := [.tl (.str .nil), .ti, .ti]
def R28 : List RTpl := [⟨.sl .u 500000, [(500000, .ar 9 (.str .nil))], [.tl (.str .nil)]⟩]
def n28 : An := .sq (.nd) (.sq (.nd) (.sq (.sq (.nd) (.lp [0, 1, 2] [] ⟨[(7, .sl .n 300400), (8, .i .i64)], [(300400, .ar 9 (.str .nil))]⟩ [.ti, .tl (.str .nil)] [(2, ⟨[(7, .sl .n 300425)], [(300425, .ar 9 (.str .nil))]⟩)] [[.tl (.str .nil)]] (.sq (.jn [7, 8] [300400] [(0, ⟨[(17, .b)], []⟩)] [[.tb]] (.nd) (.nd)) (.nd)))) (.nd)))
theorem e28 (k : Nat) (y : Tup h28) : exec (P := Tryd.prog) D (lk rowsL) [C34 k] k (bodyOf Tryd.f28) n28 (fnE Tryd.f28 A28 [] (inOf A28 (ofTup h28 y))) (fnSt [] (inOf A28 (ofTup h28 y))) (leafR D (fnE Tryd.f28 A28 [] (inOf A28 (ofTup h28 y))) Tryd.f28.results.toList (R28.map (·.h)) R28) = F28 k y.1 y.2.1 y.2.2 := by kernel_rfl
noncomputable def C28 (k : Nat) : Con Tryd.prog := ⟨28, Tryd.f28, Tryd.func28, by kernel_rfl, by kernel_rfl, A28, h28, [], R28, fun y => F28 k y.1 y.2.1 y.2.2, fun y r h => con_ok good mixed (c := bodyOf Tryd.f28) Tryd.func28 (by kernel_rfl) n28 y ((e28 k y).trans h)⟩
noncomputable def L16_8 (k : Nat) (x3 : (List (Int × Bool × ByteArray))) (x6 : Bool) (z18 : (Int × (List ByteArray))) : Option ((Int × (List ByteArray)) ⊕ (List ByteArray)) :=
((cond (decide (z18.1 < (x3.length : Int))) (
cond (decide (z18.1 < 8)) (
some x6) (
some false)) (
some false) : Option Bool)).bind fun y19 => 
cond y19 (
(ix x3 z18.1).bind fun a20 =>
(F10 k a20.1).bind fun y21 => 
grd (decide ((z18.2.length + [y21].length) * 16 ≤ 140737488355328)) <|
some (.inl ((IntKind.wrap .i64 (z18.1 + 1)), (z18.2 ++ [y21])))) (
some (.inr z18.2))
noncomputable def F16 (k : Nat) (x1 : Int) (x2 : Int) (x3 : (List (Int × Bool × ByteArray))) (x4 : (List (ByteArray × Bool × ByteArray))) (x5 : (List ByteArray)) (x6 : Bool) : Option (List ByteArray) :=
(loopN (L16_8 k x3 x6) k (0, ([] : List ByteArray))).bind fun y22 => 
(F28 k x5 5 30).bind fun y23 => 
grd (decide ((y22.length + y23.length) * 16 ≤ 140737488355328)) <|
some (y22 ++ y23)
def A16 : CTpl := ⟨[.ag [.i .i64, .i .u32, .fz .u (.int .i64 (.bool (.str .nil))), .fz .u (.str (.bool (.str .nil))), .fz .u (.str .nil), .b]], []⟩
def h16 : List HTy := [.ti, .ti, .tl (.int .i64 (.bool (.str .nil))), .tl (.str (.bool (.str .nil))), .tl (.str .nil), .tb]
def R16 : List RTpl := [⟨.sl .u 500000, [(500000, .ar 9 (.str .nil))], [.tl (.str .nil)]⟩]
def n16 : An := .sq (.nd) (.sq (.nd) (.sq (.sq (.nd) (.lp [1] [1] ⟨[(3, .sl .n 300400), (4, .i .i64)], [(300400, .ar 9 (.str .nil))]⟩ [.ti, .tl (.str .nil)] [(2, ⟨[(3, .sl .n 300425)], [(300425, .ar 9 (.str .nil))]⟩)] [[.tl (.str .nil)]] (.sq (.jn [3, 4] [300400] [(0, ⟨[(17, .b)], []⟩)] [[.tb]] (.nd) (.nd)) (.nd)))) (.nd)))
theorem e16 (k : Nat) (y : Tup h16) : exec (P := Tryd.prog) D (lk rowsL) [C10 k, C28 k] k (bodyOf Tryd.f16) n16 (fnE Tryd.f16 A16 [] (inOf A16 (ofTup h16 y))) (fnSt [] (inOf A16 (ofTup h16 y))) (leafR D (fnE Tryd.f16 A16 [] (inOf A16 (ofTup h16 y))) Tryd.f16.results.toList (R16.map (·.h)) R16) = F16 k y.1 y.2.1 y.2.2.1 y.2.2.2.1 y.2.2.2.2.1 y.2.2.2.2.2 := by kernel_rfl
noncomputable def C16 (k : Nat) : Con Tryd.prog := ⟨16, Tryd.f16, Tryd.func16, by kernel_rfl, by kernel_rfl, A16, h16, [], R16, fun y => F16 k y.1 y.2.1 y.2.2.1 y.2.2.2.1 y.2.2.2.2.1 y.2.2.2.2.2, fun y r h => con_ok good mixed (c := bodyOf Tryd.f16) Tryd.func16 (by kernel_rfl) n16 y ((e16 k y).trans h)⟩
noncomputable def L29_8 (k : Nat) (x1 : ByteArray) (x2 : (List (ByteArray × Bool × ByteArray × Int))) (z16 : (Int × (List (ByteArray × Bool × ByteArray × Int)))) : Option ((Int × (List (ByteArray × Bool × ByteArray × Int))) ⊕ (List (ByteArray × Bool × ByteArray × Int))) :=
cond (decide (z16.1 < (x2.length : Int))) (
(((ix x2 z16.1).bind fun a17 =>
cond (!(a17.1.toList == x1.toList)) (
(ix x2 z16.1).bind fun a18 =>
grd (decide ((z16.2.length + [(a18.1, a18.2.1, a18.2.2.1, a18.2.2.2)].length) * 48 ≤ 140737488355328)) <|
some (z16.2 ++ [(a18.1, a18.2.1, a18.2.2.1, a18.2.2.2)])) (
some z16.2) : Option (List (ByteArray × Bool × ByteArray × Int)))).bind fun y19 => 
some (.inl ((IntKind.wrap .i64 (z16.1 + 1)), y19))) (
some (.inr z16.2))
noncomputable def F29 (k : Nat) (x1 : ByteArray) (x2 : (List (ByteArray × Bool × ByteArray × Int))) : Option (List (ByteArray × Bool × ByteArray × Int)) :=
(loopN (L29_8 k x1 x2) k (0, ([] : List (ByteArray × Bool × ByteArray × Int)))).bind fun y20 => 
some y20
def A29 : CTpl := ⟨[.pt 1000000 0, .s], [(1000000, .bx 47 [.fz .u (.str (.bool (.str (.int .u32 .nil))))])]⟩
def h29 : List HTy := [.ts, .tl (.str (.bool (.str (.int .u32 .nil))))]
def R29 : List RTpl := [⟨.sl .u 500000, [(500000, .ar 38 (.str (.bool (.str (.int .u32 .nil)))))], [.tl (.str (.bool (.str (.int .u32 .nil))))]⟩]
def n29 : An := .sq (.nd) (.sq (.nd) (.sq (.sq (.nd) (.lp [0, 1] [] ⟨[(5, .sl .n 300400), (6, .i .i64)], [(300400, .ar 38 (.str (.bool (.str (.int .u32 .nil)))))]⟩ [.ti, .tl (.str (.bool (.str (.int .u32 .nil))))] [(2, ⟨[(5, .sl .n 300425)], [(300425, .ar 38 (.str (.bool (.str (.int .u32 .nil)))))]⟩)] [[.tl (.str (.bool (.str (.int .u32 .nil))))]] (.sq (.nd) (.jn [6] [] [(0, ⟨[(5, .sl .n 300750)], [(300750, .ar 38 (.str (.bool (.str (.int .u32 .nil)))))]⟩)] [[.tl (.str (.bool (.str (.int .u32 .nil))))]] (.nd) (.nd))))) (.nd)))
theorem e29 (k : Nat) (y : Tup h29) : exec (P := Tryd.prog) D (lk rowsL) [] k (bodyOf Tryd.f29) n29 (fnE Tryd.f29 A29 [1000000] (inOf A29 (ofTup h29 y))) (fnSt [1000000] (inOf A29 (ofTup h29 y))) (leafR D (fnE Tryd.f29 A29 [1000000] (inOf A29 (ofTup h29 y))) Tryd.f29.results.toList (R29.map (·.h)) R29) = F29 k y.1 y.2 := by kernel_rfl
noncomputable def C29 (k : Nat) : Con Tryd.prog := ⟨29, Tryd.f29, Tryd.func29, by kernel_rfl, by kernel_rfl, A29, h29, [1000000], R29, fun y => F29 k y.1 y.2, fun y r h => con_ok good mixed (c := bodyOf Tryd.f29) Tryd.func29 (by kernel_rfl) n29 y ((e29 k y).trans h)⟩
noncomputable def L17_3 (k : Nat) (x1 : (List ByteArray)) (z11 : (Int × (List (ByteArray × Bool × ByteArray × Int)))) : Option ((Int × (List (ByteArray × Bool × ByteArray × Int))) ⊕ (List (ByteArray × Bool × ByteArray × Int))) :=
cond (decide (z11.1 < (x1.length : Int))) (
(ix x1 z11.1).bind fun a12 =>
(F29 k a12 z11.2).bind fun y13 => 
some (.inl ((IntKind.wrap .i64 (z11.1 + 1)), y13))) (
some (.inr z11.2))
noncomputable def F17 (k : Nat) (x1 : (List ByteArray)) (x2 : (List (ByteArray × Bool × ByteArray × Int))) : Option (List (ByteArray × Bool × ByteArray × Int)) :=
(loopN (L17_3 k x1) k (0, x2)).bind fun y14 => 
some y14
def A17 : CTpl := ⟨[.pt 1000000 0, .fz .u (.str .nil)], [(1000000, .bx 47 [.fz .u (.str (.bool (.str (.int .u32 .nil))))])]⟩
def h17 : List HTy := [.tl (.str .nil), .tl (.str (.bool (.str (.int .u32 .nil))))]
def R17 : List RTpl := [⟨.tp [], [(1000000, .bx 47 [.fz .u (.str (.bool (.str (.int .u32 .nil))))])], [.tl (.str (.bool (.str (.int .u32 .nil))))]⟩]
def n17 : An := .sq (.nd) (.lp [0, 1] [] ⟨[(4, .i .i64)], [(1000000, .bx 47 [.fz .u (.str (.bool (.str (.int .u32 .nil))))])]⟩ [.ti, .tl (.str (.bool (.str (.int .u32 .nil))))] [(2, ⟨[], [(1000000, .bx 47 [.fz .u (.str (.bool (.str (.int .u32 .nil))))])]⟩)] [[.tl (.str (.bool (.str (.int .u32 .nil))))]] (.nd))
theorem e17 (k : Nat) (y : Tup h17) : exec (P := Tryd.prog) D (lk rowsL) [C29 k] k (bodyOf Tryd.f17) n17 (fnE Tryd.f17 A17 [] (inOf A17 (ofTup h17 y))) (fnSt [] (inOf A17 (ofTup h17 y))) (leafR D (fnE Tryd.f17 A17 [] (inOf A17 (ofTup h17 y))) Tryd.f17.results.toList (R17.map (·.h)) R17) = F17 k y.1 y.2 := by kernel_rfl
noncomputable def C17 (k : Nat) : Con Tryd.prog := ⟨17, Tryd.f17, Tryd.func17, by kernel_rfl, by kernel_rfl, A17, h17, [], R17, fun y => F17 k y.1 y.2, fun y r h => con_ok good mixed (c := bodyOf Tryd.f17) Tryd.func17 (by kernel_rfl) n17 y ((e17 k y).trans h)⟩
noncomputable def L11_1_16 (k : Nat) (x1 : (List ByteArray)) (x2 : (List (ByteArray × (ByteArray × Bool × ByteArray × Int)))) (z18 : (Int × (List (ByteArray × Bool × ByteArray × Int)))) : Option ((Int × (List (ByteArray × Bool × ByteArray × Int))) ⊕ (List (ByteArray × Bool × ByteArray × Int))) :=
cond (decide (z18.1 < (x1.length : Int))) (
(ix x1 z18.1).bind fun a19 =>
(x1[z18.1.toNat]?).bind fun a20 =>
(some ((mget sEq x2 a20).getD (ByteArray.empty, false, ByteArray.empty, 0), (mget sEq x2 a20).isSome)).bind fun a21 =>
grd (decide ((z18.2.length + [(a20, a21.1.2.1, a21.1.2.2.1, a21.1.2.2.2)].length) * 48 ≤ 140737488355328)) <|
some (.inl ((IntKind.wrap .i64 (z18.1 + 1)), (z18.2 ++ [(a20, a21.1.2.1, a21.1.2.2.1, a21.1.2.2.2)])))) (
some (.inr z18.2))
noncomputable def F11_1 (k : Nat) (x1 : (List ByteArray)) (x2 : (List (ByteArray × (ByteArray × Bool × ByteArray × Int)))) : Option (List (ByteArray × Bool × ByteArray × Int)) :=
(loopN (L11_1_16 k x1 x2) k (0, ([] : List (ByteArray × Bool × ByteArray × Int)))).bind fun y22 => 
some y22
def A11_1 : CTpl := ⟨[.pt 1000000 0, .sl .u 1000001], [(1000000, .bx 60 [.mp 1000002]), (1000001, .ar 9 (.str .nil)), (1000002, .mp ⟨.s, true, (.str (.bool (.str (.int .u32 .nil))))⟩)]⟩
def h11_1 : List HTy := [.tl (.str .nil), .tm ⟨.s, true, (.str (.bool (.str (.int .u32 .nil))))⟩]
def R11_1 : List RTpl := [⟨.sl .u 500000, [(500000, .ar 38 (.str (.bool (.str (.int .u32 .nil)))))], [.tl (.str (.bool (.str (.int .u32 .nil))))]⟩]
def n11_1 : An := .sq (.nd) (.sq (.nd) (.sq (.nd) (.sq (.sq (.nd) (.lp [0, 11, 12] [] ⟨[(5, .sl .n 300800), (13, .i .i64)], [(300800, .ar 38 (.str (.bool (.str (.int .u32 .nil)))))]⟩ [.ti, .tl (.str (.bool (.str (.int .u32 .nil))))] [(2, ⟨[(5, .sl .n 300825)], [(300825, .ar 38 (.str (.bool (.str (.int .u32 .nil)))))]⟩)] [[.tl (.str (.bool (.str (.int .u32 .nil))))]] (.nd))) (.nd))))
theorem e11_1 (k : Nat) (y : Tup h11_1) : exec (P := Tryd.prog) D (lk rowsL) [] k (bodyOf Tryd.f11) n11_1 (fnE Tryd.f11 A11_1 [1000000, 1000001, 1000002] (inOf A11_1 (ofTup h11_1 y))) (fnSt [1000000, 1000001, 1000002] (inOf A11_1 (ofTup h11_1 y))) (leafR D (fnE Tryd.f11 A11_1 [1000000, 1000001, 1000002] (inOf A11_1 (ofTup h11_1 y))) Tryd.f11.results.toList (R11_1.map (·.h)) R11_1) = F11_1 k y.1 y.2 := by kernel_rfl
noncomputable def C11_1 (k : Nat) : Con Tryd.prog := ⟨11, Tryd.f11, Tryd.func11, by kernel_rfl, by kernel_rfl, A11_1, h11_1, [1000000, 1000001, 1000002], R11_1, fun y => F11_1 k y.1 y.2, fun y r h => con_ok good mixed (c := bodyOf Tryd.f11) Tryd.func11 (by kernel_rfl) n11_1 y ((e11_1 k y).trans h)⟩
noncomputable def L19_23 (k : Nat) (x1 : (List (ByteArray × Bool × ByteArray × Int))) (x2 : (List ByteArray)) (z106 : (Int × (List (ByteArray × Bool × ByteArray × Int)))) (z109 : (Int × ByteArray × Bool × ByteArray × Int)) : Option ((Int × ByteArray × Bool × ByteArray × Int) ⊕ (ByteArray × Bool × ByteArray × Int)) :=
cond (decide (z109.1 < (x1.length : Int))) (
(((ix x1 z109.1).bind fun a110 =>
(ix x2 z106.1).bind fun a111 =>
(x2[z106.1.toNat]?).bind fun a112 =>
cond (a110.1.toList == a112.toList) (
(ix x1 z109.1).bind fun a113 =>
some (a113.1, a113.2.1, a113.2.2.1, a113.2.2.2)) (
some (z109.2.1, z109.2.2.1, z109.2.2.2.1, z109.2.2.2.2)) : Option (ByteArray × Bool × ByteArray × Int))).bind fun y114 => 
some (.inl ((IntKind.wrap .i64 (z109.1 + 1)), y114.1, y114.2.1, y114.2.2.1, y114.2.2.2))) (
some (.inr (z109.2.1, z109.2.2.1, z109.2.2.2.1, z109.2.2.2.2)))
noncomputable def L19_8 (k : Nat) (x1 : (List (ByteArray × Bool × ByteArray × Int))) (x2 : (List ByteArray)) (z106 : (Int × (List (ByteArray × Bool × ByteArray × Int)))) : Option ((Int × (List (ByteArray × Bool × ByteArray × Int))) ⊕ (List (ByteArray × Bool × ByteArray × Int))) :=
cond (decide (z106.1 < (x2.length : Int))) (
(ix x2 z106.1).bind fun a107 =>
(x2[z106.1.toNat]?).bind fun a108 =>
(loopN (L19_23 k x1 x2 z106) k (0, a108, false, ByteArray.empty, 0)).bind fun y115 => 
grd (decide ((z106.2.length + [(y115.1, y115.2.1, y115.2.2.1, y115.2.2.2)].length) * 48 ≤ 140737488355328)) <|
some (.inl ((IntKind.wrap .i64 (z106.1 + 1)), (z106.2 ++ [(y115.1, y115.2.1, y115.2.2.1, y115.2.2.2)])))) (
some (.inr z106.2))
noncomputable def F19 (k : Nat) (x1 : (List (ByteArray × Bool × ByteArray × Int))) (x2 : (List ByteArray)) : Option (List (ByteArray × Bool × ByteArray × Int)) :=
(loopN (L19_8 k x1 x2) k (0, ([] : List (ByteArray × Bool × ByteArray × Int)))).bind fun y116 => 
some y116
def A19 : CTpl := ⟨[.pt 1000000 0, .sl .u 1000001], [(1000000, .bx 47 [.fz .u (.str (.bool (.str (.int .u32 .nil))))]), (1000001, .ar 9 (.str .nil))]⟩
def h19 : List HTy := [.tl (.str (.bool (.str (.int .u32 .nil)))), .tl (.str .nil)]
def R19 : List RTpl := [⟨.sl .u 500000, [(500000, .ar 38 (.str (.bool (.str (.int .u32 .nil)))))], [.tl (.str (.bool (.str (.int .u32 .nil))))]⟩]
def n19 : An := .sq (.nd) (.sq (.nd) (.sq (.sq (.nd) (.lp [0, 1] [] ⟨[(5, .sl .n 300400), (6, .i .i64)], [(300400, .ar 38 (.str (.bool (.str (.int .u32 .nil)))))]⟩ [.ti, .tl (.str (.bool (.str (.int .u32 .nil))))] [(2, ⟨[(5, .sl .n 300425)], [(300425, .ar 38 (.str (.bool (.str (.int .u32 .nil)))))]⟩)] [[.tl (.str (.bool (.str (.int .u32 .nil))))]] (.sq (.nd) (.sq (.sq (.nd) (.sq (.sq (.nd) (.lp [5, 6, 7] [300400] ⟨[(8, .i .i64)], [(7, .bx 38 [.s, .b, .s, .i .u32])]⟩ [.ti, .ts, .tb, .ts, .ti] [(4, ⟨[], [(7, .bx 38 [.s, .b, .s, .i .u32])]⟩)] [[.ts, .tb, .ts, .ti]] (.sq (.nd) (.jn [8] [] [(0, ⟨[], [(7, .bx 38 [.s, .b, .s, .i .u32])]⟩)] [[.ts, .tb, .ts, .ti]] (.sq (.mk [] [0, 1, 3, 7, 0, 31, 63, 127, 0, 0, 768, 1792, 4095]) (.nd)) (.nd))))) (.nd))) (.nd))))) (.nd)))
theorem e19 (k : Nat) (y : Tup h19) : exec (P := Tryd.prog) D (lk rowsL) [] k (bodyOf Tryd.f19) n19 (fnE Tryd.f19 A19 [1000000, 1000001] (inOf A19 (ofTup h19 y))) (fnSt [1000000, 1000001] (inOf A19 (ofTup h19 y))) (leafR D (fnE Tryd.f19 A19 [1000000, 1000001] (inOf A19 (ofTup h19 y))) Tryd.f19.results.toList (R19.map (·.h)) R19) = F19 k y.1 y.2 := by kernel_rfl
noncomputable def C19 (k : Nat) : Con Tryd.prog := ⟨19, Tryd.f19, Tryd.func19, by kernel_rfl, by kernel_rfl, A19, h19, [1000000, 1000001], R19, fun y => F19 k y.1 y.2, fun y r h => con_ok good mixed (c := bodyOf Tryd.f19) Tryd.func19 (by kernel_rfl) n19 y ((e19 k y).trans h)⟩
noncomputable def L18_14 (k : Nat) (x1 : (List (ByteArray × Bool × ByteArray × Int))) (x2 : (List (ByteArray × Bool × ByteArray × Int))) (z25 : Int) : Option (Int ⊕ (Unit ⊕ Unit)) :=
cond (decide (z25 < (x1.length : Int))) (
(ix x1 z25).bind fun a26 =>
(x1[z25.toNat]?).bind fun a27 =>
(ix x2 z25).bind fun a28 =>
(x2[z25.toNat]?).bind fun a29 =>
cond (!((a27.1.toList == a29.1.toList) && ((a27.2.1 == a29.2.1) && ((a27.2.2.1.toList == a29.2.2.1.toList) && ((a27.2.2.2 == a29.2.2.2) && true))))) (
some (.inr (.inl ()))) (
some (.inl (IntKind.wrap .i64 (z25 + 1))))) (
some (.inr (.inr ())))
noncomputable def F18 (k : Nat) (x1 : (List (ByteArray × Bool × ByteArray × Int))) (x2 : (List (ByteArray × Bool × ByteArray × Int))) : Option Bool :=
cond ((x1.length : Int) != (x2.length : Int)) (
some false) (
(loopN (L18_14 k x1 x2) k 0).bind fun y30 => 
sel (fun y31 =>
some false) (fun y32 =>
some true) y30)
def A18 : CTpl := ⟨[.sl .u 1000000, .sl .u 1000001], [(1000000, .ar 38 (.str (.bool (.str (.int .u32 .nil))))), (1000001, .ar 38 (.str (.bool (.str (.int .u32 .nil)))))]⟩
def h18 : List HTy := [.tl (.str (.bool (.str (.int .u32 .nil)))), .tl (.str (.bool (.str (.int .u32 .nil))))]
def R18 : List RTpl := [⟨.b, [], [.tb]⟩]
def n18 : An := .sq (.nd) (.sq (.nd) (.sq (.sq (.nd) (.lp [0, 1] [] ⟨[(5, .i .i64)], []⟩ [.ti] [(1, ⟨[(4, .lb false)], []⟩), (2, ⟨[], []⟩)] [[], []] (.sq (.nd) (.sq (.sq (.mk [] [0, 0, 3, 7, 0, 0, 48, 112, 255]) (.nd)) (.nd))))) (.nd)))
theorem e18 (k : Nat) (y : Tup h18) : exec (P := Tryd.prog) D (lk rowsL) [] k (bodyOf Tryd.f18) n18 (fnE Tryd.f18 A18 [1000000, 1000001] (inOf A18 (ofTup h18 y))) (fnSt [1000000, 1000001] (inOf A18 (ofTup h18 y))) (leafR D (fnE Tryd.f18 A18 [1000000, 1000001] (inOf A18 (ofTup h18 y))) Tryd.f18.results.toList (R18.map (·.h)) R18) = F18 k y.1 y.2 := by kernel_rfl
noncomputable def C18 (k : Nat) : Con Tryd.prog := ⟨18, Tryd.f18, Tryd.func18, by kernel_rfl, by kernel_rfl, A18, h18, [1000000, 1000001], R18, fun y => F18 k y.1 y.2, fun y r h => con_ok good mixed (c := bodyOf Tryd.f18) Tryd.func18 (by kernel_rfl) n18 y ((e18 k y).trans h)⟩
noncomputable def L30_8 (k : Nat) (x1 : (List (ByteArray × Bool × ByteArray))) (x2 : Int) (z33 : (Int × (List (ByteArray × Bool × ByteArray)))) : Option ((Int × (List (ByteArray × Bool × ByteArray))) ⊕ (List (ByteArray × Bool × ByteArray))) :=
((cond (decide (z33.1 < (x1.length : Int))) (
some (decide (z33.1 < x2))) (
some false) : Option Bool)).bind fun y34 => 
cond y34 (
(ix x1 z33.1).bind fun a35 =>
(F34 k a35.1 60).bind fun y36 => 
(ix x1 z33.1).bind fun a37 =>
(ix x1 z33.1).bind fun a38 =>
(F34 k a38.2.2 60).bind fun y39 => 
grd (decide ((z33.2.length + [(y36, a37.2.1, y39)].length) * 40 ≤ 140737488355328)) <|
some (.inl ((IntKind.wrap .i64 (z33.1 + 1)), (z33.2 ++ [(y36, a37.2.1, y39)])))) (
some (.inr z33.2))
noncomputable def F30 (k : Nat) (x1 : (List (ByteArray × Bool × ByteArray))) (x2 : Int) : Option (List (ByteArray × Bool × ByteArray)) :=
(loopN (L30_8 k x1 x2) k (0, ([] : List (ByteArray × Bool × ByteArray)))).bind fun y40 => 
some y40
def A30 : CTpl := ⟨[.fz .u (.str (.bool (.str .nil))), .i .i64], []⟩
def h30 : List HTy := [.tl (.str (.bool (.str .nil))), .ti]
def R30 : List RTpl := [⟨.sl .u 500000, [(500000, .ar 40 (.str (.bool (.str .nil))))], [.tl (.str (.bool (.str .nil)))]⟩]
def n30 : An := .sq (.nd) (.sq (.nd) (.sq (.sq (.nd) (.lp [0, 1] [] ⟨[(5, .sl .n 300400), (6, .i .i64)], [(300400, .ar 40 (.str (.bool (.str .nil))))]⟩ [.ti, .tl (.str (.bool (.str .nil)))] [(2, ⟨[(5, .sl .n 300425)], [(300425, .ar 40 (.str (.bool (.str .nil))))]⟩)] [[.tl (.str (.bool (.str .nil)))]] (.sq (.jn [5, 6] [300400] [(0, ⟨[(15, .b)], []⟩)] [[.tb]] (.nd) (.nd)) (.sq (.mk [] [0, 0, 0, 6, 14, 30, 62, 0, 0, 384, 896, 1920, 0, 0, 12288, 28672, 61440, 127102, 262142, 524286, 1048575, 2097151]) (.nd))))) (.nd)))
theorem e30 (k : Nat) (y : Tup h30) : exec (P := Tryd.prog) D (lk rowsL) [C34 k] k (bodyOf Tryd.f30) n30 (fnE Tryd.f30 A30 [] (inOf A30 (ofTup h30 y))) (fnSt [] (inOf A30 (ofTup h30 y))) (leafR D (fnE Tryd.f30 A30 [] (inOf A30 (ofTup h30 y))) Tryd.f30.results.toList (R30.map (·.h)) R30) = F30 k y.1 y.2 := by kernel_rfl
noncomputable def C30 (k : Nat) : Con Tryd.prog := ⟨30, Tryd.f30, Tryd.func30, by kernel_rfl, by kernel_rfl, A30, h30, [], R30, fun y => F30 k y.1 y.2, fun y r h => con_ok good mixed (c := bodyOf Tryd.f30) Tryd.func30 (by kernel_rfl) n30 y ((e30 k y).trans h)⟩
noncomputable def F20 (k : Nat) (x1 : Int) (x2 : Int) (x3 : (List (Int × Bool × ByteArray))) (x4 : (List (ByteArray × Bool × ByteArray))) (x5 : (List ByteArray)) (x6 : Bool) : Option (List (ByteArray × Bool × ByteArray)) :=
cond x6 (
(F9 k x3 6).bind fun y2 => 
some y2) (
(F30 k x4 12).bind fun y3 => 
some y3)
def A20 : CTpl := ⟨[.ag [.i .i64, .i .u32, .fz .u (.int .i64 (.bool (.str .nil))), .fz .u (.str (.bool (.str .nil))), .fz .u (.str .nil), .b]], []⟩
def h20 : List HTy := [.ti, .ti, .tl (.int .i64 (.bool (.str .nil))), .tl (.str (.bool (.str .nil))), .tl (.str .nil), .tb]
def R20 : List RTpl := [⟨.sl .u 500000, [(500000, .ar 40 (.str (.bool (.str .nil))))], [.tl (.str (.bool (.str .nil)))]⟩]
def n20 : An := .nd
theorem e20 (k : Nat) (y : Tup h20) : exec (P := Tryd.prog) D (lk rowsL) [C9 k, C30 k] k (bodyOf Tryd.f20) n20 (fnE Tryd.f20 A20 [] (inOf A20 (ofTup h20 y))) (fnSt [] (inOf A20 (ofTup h20 y))) (leafR D (fnE Tryd.f20 A20 [] (inOf A20 (ofTup h20 y))) Tryd.f20.results.toList (R20.map (·.h)) R20) = F20 k y.1 y.2.1 y.2.2.1 y.2.2.2.1 y.2.2.2.2.1 y.2.2.2.2.2 := by kernel_rfl
noncomputable def C20 (k : Nat) : Con Tryd.prog := ⟨20, Tryd.f20, Tryd.func20, by kernel_rfl, by kernel_rfl, A20, h20, [], R20, fun y => F20 k y.1 y.2.1 y.2.2.1 y.2.2.2.1 y.2.2.2.2.1 y.2.2.2.2.2, fun y r h => con_ok good mixed (c := bodyOf Tryd.f20) Tryd.func20 (by kernel_rfl) n20 y ((e20 k y).trans h)⟩
noncomputable def L8_1_15 (k : Nat) (x1 : Int) (x2 : (List (ByteArray × Bool × ByteArray))) (z13 : (Int × (List (ByteArray × (ByteArray × Bool × ByteArray × Int))))) : Option ((Int × (List (ByteArray × (ByteArray × Bool × ByteArray × Int)))) ⊕ (List (ByteArray × (ByteArray × Bool × ByteArray × Int)))) :=
cond (decide (z13.1 < (x2.length : Int))) (
(((ix x2 z13.1).bind fun a14 =>
(x2[z13.1.toNat]?).bind fun a15 =>
cond a15.2.1 (
some (mdel sEq z13.2 a15.1)) (
some (mset sEq z13.2 a15.1 (a15.1, true, a15.2.2, x1))) : Option (List (ByteArray × (ByteArray × Bool × ByteArray × Int))))).bind fun y16 => 
some (.inl ((IntKind.wrap .i64 (z13.1 + 1)), y16))) (
some (.inr z13.2))
noncomputable def F8_1 (k : Nat) (x1 : Int) (x2 : (List (ByteArray × Bool × ByteArray))) (x3 : (List (ByteArray × (ByteArray × Bool × ByteArray × Int)))) : Option (List (ByteArray × (ByteArray × Bool × ByteArray × Int))) :=
(loopN (L8_1_15 k x1 x2) k (0, x3)).bind fun y17 => 
some y17
def A8_1 : CTpl := ⟨[.pt 1000000 0, .i .u32, .sl .u 1000001], [(1000000, .bx 60 [.mp 1000002]), (1000001, .ar 40 (.str (.bool (.str .nil)))), (1000002, .mp ⟨.s, true, (.str (.bool (.str (.int .u32 .nil))))⟩)]⟩
def h8_1 : List HTy := [.ti, .tl (.str (.bool (.str .nil))), .tm ⟨.s, true, (.str (.bool (.str (.int .u32 .nil))))⟩]
def R8_1 : List RTpl := [⟨.tp [], [(1000002, .mp ⟨.s, true, (.str (.bool (.str (.int .u32 .nil))))⟩)], [.tm ⟨.s, true, (.str (.bool (.str (.int .u32 .nil))))⟩]⟩]
def n8_1 : An := .sq (.nd) (.sq (.nd) (.sq (.nd) (.lp [0, 1, 19, 20] [] ⟨[(21, .i .i64)], [(1000002, .mp ⟨.s, true, (.str (.bool (.str (.int .u32 .nil))))⟩)]⟩ [.ti, .tm ⟨.s, true, (.str (.bool (.str (.int .u32 .nil))))⟩] [(2, ⟨[], [(1000002, .mp ⟨.s, true, (.str (.bool (.str (.int .u32 .nil))))⟩)]⟩)] [[.tm ⟨.s, true, (.str (.bool (.str (.int .u32 .nil))))⟩]] (.sq (.nd) (.sq (.nd) (.jn [21] [] [(0, ⟨[], [(1000002, .mp ⟨.s, true, (.str (.bool (.str (.int .u32 .nil))))⟩)]⟩)] [[.tm ⟨.s, true, (.str (.bool (.str (.int .u32 .nil))))⟩]] (.sq (.nd) (.sq (.nd) (.sq (.mk [] [0, 1, 3, 7, 0, 16, 63]) (.mk [] [0, 1, 3, 7, 0, 16, 0, 64, 0, 256, 0, 1984, 4095])))) (.nd)))))))
theorem e8_1 (k : Nat) (y : Tup h8_1) : exec (P := Tryd.prog) D (lk rowsL) [] k (bodyOf Tryd.f8) n8_1 (fnE Tryd.f8 A8_1 [1000000, 1000001] (inOf A8_1 (ofTup h8_1 y))) (fnSt [1000000, 1000001] (inOf A8_1 (ofTup h8_1 y))) (leafR D (fnE Tryd.f8 A8_1 [1000000, 1000001] (inOf A8_1 (ofTup h8_1 y))) Tryd.f8.results.toList (R8_1.map (·.h)) R8_1) = F8_1 k y.1 y.2.1 y.2.2 := by kernel_rfl
noncomputable def C8_1 (k : Nat) : Con Tryd.prog := ⟨8, Tryd.f8, Tryd.func8, by kernel_rfl, by kernel_rfl, A8_1, h8_1, [1000000, 1000001], R8_1, fun y => F8_1 k y.1 y.2.1 y.2.2, fun y r h => con_ok good mixed (c := bodyOf Tryd.f8) Tryd.func8 (by kernel_rfl) n8_1 y ((e8_1 k y).trans h)⟩
noncomputable def L21_26 (k : Nat) (x3 : (List (ByteArray × Bool × ByteArray))) (y226 : (List (ByteArray × Bool × ByteArray × Int))) (z223 : (Int × (List (ByteArray × Bool × ByteArray × Int)))) (z229 : Int) : Option (Int ⊕ Int) :=
((cond (decide (z229 < (y226.length : Int))) (
(ix y226 z229).bind fun a230 =>
(y226[z229.toNat]?).bind fun a231 =>
(ix x3 z223.1).bind fun a232 =>
(x3[z223.1.toNat]?).bind fun a233 =>
(F31 k a231.1 a233.1).bind fun y234 => 
some y234) (
some false) : Option Bool)).bind fun y235 => 
cond y235 (
some (.inl (IntKind.wrap .i64 (z229 + 1)))) (
some (.inr z229))
noncomputable def L21_3 (k : Nat) (x1 : Int) (x3 : (List (ByteArray × Bool × ByteArray))) (z223 : (Int × (List (ByteArray × Bool × ByteArray × Int)))) : Option ((Int × (List (ByteArray × Bool × ByteArray × Int))) ⊕ (List (ByteArray × Bool × ByteArray × Int))) :=
cond (decide (z223.1 < (x3.length : Int))) (
(((ix x3 z223.1).bind fun a224 =>
(x3[z223.1.toNat]?).bind fun a225 =>
(F29 k a225.1 z223.2).bind fun y226 => 
(ix x3 z223.1).bind fun a227 =>
(x3[z223.1.toNat]?).bind fun a228 =>
cond a228.2.1 (
some y226) (
(loopN (L21_26 k x3 y226 z223) k 0).bind fun y236 => 
grd (bnds (y226.length : Int) 0 y236) <|
grd (decide ((([] : List (ByteArray × Bool × ByteArray × Int)).length + ((y226.drop 0).take (y236.toNat - 0)).length) * 48 ≤ 140737488355328)) <|
(ix x3 z223.1).bind fun a237 =>
(x3[z223.1.toNat]?).bind fun a238 =>
(ix x3 z223.1).bind fun a239 =>
(x3[z223.1.toNat]?).bind fun a240 =>
grd (decide (((([] : List (ByteArray × Bool × ByteArray × Int)) ++ ((y226.drop 0).take (y236.toNat - 0))).length + [(a238.1, true, a240.2.2, x1)].length) * 48 ≤ 140737488355328)) <|
grd (bnds (y226.length : Int) y236 (y226.length : Int)) <|
grd (decide ((((([] : List (ByteArray × Bool × ByteArray × Int)) ++ ((y226.drop 0).take (y236.toNat - 0))) ++ [(a238.1, true, a240.2.2, x1)]).length + ((y226.drop y236.toNat).take (((y226.length : Int).toNat) - y236.toNat)).length) * 48 ≤ 140737488355328)) <|
some (((([] : List (ByteArray × Bool × ByteArray × Int)) ++ ((y226.drop 0).take (y236.toNat - 0))) ++ [(a238.1, true, a240.2.2, x1)]) ++ ((y226.drop y236.toNat).take (((y226.length : Int).toNat) - y236.toNat)))) : Option (List (ByteArray × Bool × ByteArray × Int)))).bind fun y241 => 
some (.inl ((IntKind.wrap .i64 (z223.1 + 1)), y241))) (
some (.inr z223.2))
noncomputable def F21 (k : Nat) (x1 : Int) (x2 : (List (ByteArray × Bool × ByteArray × Int))) (x3 : (List (ByteArray × Bool × ByteArray))) : Option (List (ByteArray × Bool × ByteArray × Int)) :=
(loopN (L21_3 k x1 x3) k (0, x2)).bind fun y242 => 
some y242
def A21 : CTpl := ⟨[.pt 1000000 0, .i .u32, .sl .u 1000001], [(1000000, .bx 47 [.fz .u (.str (.bool (.str (.int .u32 .nil))))]), (1000001, .ar 40 (.str (.bool (.str .nil))))]⟩
def h21 : List HTy := [.ti, .tl (.str (.bool (.str (.int .u32 .nil)))), .tl (.str (.bool (.str .nil)))]
def R21 : List RTpl := [⟨.tp [], [(1000000, .bx 47 [.fz .u (.str (.bool (.str (.int .u32 .nil))))])], [.tl (.str (.bool (.str (.int .u32 .nil))))]⟩]
def n21 : An := .sq (.nd) (.lp [0, 1, 2] [] ⟨[(6, .i .i64)], [(1000000, .bx 47 [.fz .u (.str (.bool (.str (.int .u32 .nil))))])]⟩ [.ti, .tl (.str (.bool (.str (.int .u32 .nil))))] [(2, ⟨[], [(1000000, .bx 47 [.fz .u (.str (.bool (.str (.int .u32 .nil))))])]⟩)] [[.tl (.str (.bool (.str (.int .u32 .nil))))]] (.sq (.nd) (.jn [6] [] [(0, ⟨[], [(1000000, .bx 47 [.sl .u 300500]), (300500, .ar 38 (.str (.bool (.str (.int .u32 .nil)))))]⟩)] [[.tl (.str (.bool (.str (.int .u32 .nil))))]] (.sq (.nd) (.sq (.nd) (.sq (.nd) (.sq (.lp [7] [402100, 1000000] ⟨[(8, .i .i64)], []⟩ [.ti] [(4, ⟨[(8, .i .i64)], []⟩)] [[.ti]] (.sq (.jn [8] [] [(0, ⟨[(47, .b)], []⟩)] [[.tb]] (.mk [] [0, 0, 2, 7, 15, 31, 31, 127, 255, 511, 31, 31, 3103, 7199, 15391, 32767, 65535]) (.nd)) (.nd))) (.mk [] [0, 0, 0, 6, 14, 0, 0, 96, 224, 480, 0, 0, 3072, 7168, 15360, 0, 65504, 131040, 262142, 0, 0, 1572864, 4194302, 8388607, 16777215, 33554431]))))) (.nd))))
theorem e21 (k : Nat) (y : Tup h21) : exec (P := Tryd.prog) D (lk rowsL) [C29 k, C31 k] k (bodyOf Tryd.f21) n21 (fnE Tryd.f21 A21 [1000001] (inOf A21 (ofTup h21 y))) (fnSt [1000001] (inOf A21 (ofTup h21 y))) (leafR D (fnE Tryd.f21 A21 [1000001] (inOf A21 (ofTup h21 y))) Tryd.f21.results.toList (R21.map (·.h)) R21) = F21 k y.1 y.2.1 y.2.2 := by kernel_rfl
noncomputable def C21 (k : Nat) : Con Tryd.prog := ⟨21, Tryd.f21, Tryd.func21, by kernel_rfl, by kernel_rfl, A21, h21, [1000001], R21, fun y => F21 k y.1 y.2.1 y.2.2, fun y r h => con_ok good mixed (c := bodyOf Tryd.f21) Tryd.func21 (by kernel_rfl) n21 y ((e21 k y).trans h)⟩
noncomputable def F37 (k : Nat) (x1 : (List ByteArray)) : Option (List ByteArray) :=
nilT x1.isEmpty (
some ([] : List ByteArray)) (
grd (decide ((([] : List ByteArray).length + x1.length) * 16 ≤ 140737488355328)) <|
some (([] : List ByteArray) ++ x1))
def A37 : CTpl := ⟨[.fz .u (.str .nil)], []⟩
def h37 : List HTy := [.tl (.str .nil)]
def R37 : List RTpl := [⟨.sl .u 500000, [(500000, .ar 9 (.str .nil))], [.tl (.str .nil)]⟩]
def n37 : An := .nd
theorem e37 (k : Nat) (y : Tup h37) : exec (P := Tryd.prog) D (lk rowsL) [] k (bodyOf Tryd.f37) n37 (fnE Tryd.f37 A37 [] (inOf A37 (ofTup h37 y))) (fnSt [] (inOf A37 (ofTup h37 y))) (leafR D (fnE Tryd.f37 A37 [] (inOf A37 (ofTup h37 y))) Tryd.f37.results.toList (R37.map (·.h)) R37) = F37 k y := by kernel_rfl
noncomputable def C37 (k : Nat) : Con Tryd.prog := ⟨37, Tryd.f37, Tryd.func37, by kernel_rfl, by kernel_rfl, A37, h37, [], R37, fun y => F37 k y, fun y r h => con_ok good mixed (c := bodyOf Tryd.f37) Tryd.func37 (by kernel_rfl) n37 y ((e37 k y).trans h)⟩
noncomputable def L47_8 (k : Nat) (z3 : (ByteArray × Nat × (List Int))) : Option ((ByteArray × Nat × (List Int)) ⊕ (ByteArray × Nat × (List Int))) :=
cond (decide (z3.2.1 < z3.1.size)) (
grd (decide ((z3.2.2.length + [((Utf8.decode z3.1 z3.2.1).1 : Int)].length) * 4 ≤ 140737488355328)) <|
some (.inl (z3.1, (z3.2.1 + (Utf8.decode z3.1 z3.2.1).2), (z3.2.2 ++ [((Utf8.decode z3.1 z3.2.1).1 : Int)])))) (
some (.inr (z3.1, z3.2.1, z3.2.2)))
noncomputable def F47 (k : Nat) (x1 : ByteArray) : Option (List Int) :=
(loopN (L47_8 k) k (x1, 0, ([] : List Int))).bind fun y4 => 
some y4.2.2
def A47 : CTpl := ⟨[.s], []⟩
def h47 : List HTy := [.ts]
def R47 : List RTpl := [⟨.sl .u 500000, [(500000, .ar 21 (.int .i32 .nil))], [.tl (.int .i32 .nil)]⟩]
def n47 : An := .sq (.nd) (.sq (.nd) (.sq (.sq (.nd) (.lp [7] [] ⟨[(3, .sl .n 300400)], [(7, .si), (300400, .ar 21 (.int .i32 .nil))]⟩ [.ts, .tn, .tl (.int .i32 .nil)] [(2, ⟨[(3, .sl .n 300425)], [(7, .si), (300425, .ar 21 (.int .i32 .nil))]⟩)] [[.ts, .tn, .tl (.int .i32 .nil)]] (.nd))) (.nd)))
theorem e47 (k : Nat) (y : Tup h47) : exec (P := Tryd.prog) D (lk rowsL) [] k (bodyOf Tryd.f47) n47 (fnE Tryd.f47 A47 [] (inOf A47 (ofTup h47 y))) (fnSt [] (inOf A47 (ofTup h47 y))) (leafR D (fnE Tryd.f47 A47 [] (inOf A47 (ofTup h47 y))) Tryd.f47.results.toList (R47.map (·.h)) R47) = F47 k y := by kernel_rfl
noncomputable def C47 (k : Nat) : Con Tryd.prog := ⟨47, Tryd.f47, Tryd.func47, by kernel_rfl, by kernel_rfl, A47, h47, [], R47, fun y => F47 k y, fun y r h => con_ok good mixed (c := bodyOf Tryd.f47) Tryd.func47 (by kernel_rfl) n47 y ((e47 k y).trans h)⟩
noncomputable def F69 (k : Nat) (x1 : Int) : Option Bool :=
some (x1 != x1)
def A69 : CTpl := ⟨[.i .i32], []⟩
def h69 : List HTy := [.ti]
def R69 : List RTpl := [⟨.b, [], [.tb]⟩]
def n69 : An := .nd
theorem e69 (k : Nat) (y : Tup h69) : exec (P := Tryd.prog) D (lk rowsL) [] k (bodyOf Tryd.f69) n69 (fnE Tryd.f69 A69 [] (inOf A69 (ofTup h69 y))) (fnSt [] (inOf A69 (ofTup h69 y))) (leafR D (fnE Tryd.f69 A69 [] (inOf A69 (ofTup h69 y))) Tryd.f69.results.toList (R69.map (·.h)) R69) = F69 k y := by kernel_rfl
noncomputable def C69 (k : Nat) : Con Tryd.prog := ⟨69, Tryd.f69, Tryd.func69, by kernel_rfl, by kernel_rfl, A69, h69, [], R69, fun y => F69 k y, fun y r h => con_ok good mixed (c := bodyOf Tryd.f69) Tryd.func69 (by kernel_rfl) n69 y ((e69 k y).trans h)⟩
noncomputable def F61 (k : Nat) (x1 : Int) (x2 : Int) : Option Int :=
(F69 k x1).bind fun y2 => 
(F69 k x2).bind fun y4 => 
cond y2 (
cond y4 (
some 0) (
some (-1))) (
cond y4 (
some 1) (
cond (decide (x1 < x2)) (
some (-1)) (
cond (decide (x2 < x1)) (
some 1) (
some 0))))
def A61 : CTpl := ⟨[.i .i32, .i .i32], []⟩
def h61 : List HTy := [.ti, .ti]
def R61 : List RTpl := [⟨.i .i64, [], [.ti]⟩]
def n61 : An := .nd
theorem e61 (k : Nat) (y : Tup h61) : exec (P := Tryd.prog) D (lk rowsL) [C69 k] k (bodyOf Tryd.f61) n61 (fnE Tryd.f61 A61 [] (inOf A61 (ofTup h61 y))) (fnSt [] (inOf A61 (ofTup h61 y))) (leafR D (fnE Tryd.f61 A61 [] (inOf A61 (ofTup h61 y))) Tryd.f61.results.toList (R61.map (·.h)) R61) = F61 k y.1 y.2 := by kernel_rfl
noncomputable def C61 (k : Nat) : Con Tryd.prog := ⟨61, Tryd.f61, Tryd.func61, by kernel_rfl, by kernel_rfl, A61, h61, [], R61, fun y => F61 k y.1 y.2, fun y r h => con_ok good mixed (c := bodyOf Tryd.f61) Tryd.func61 (by kernel_rfl) n61 y ((e61 k y).trans h)⟩
noncomputable def L48_6 (k : Nat) (x1 : (List Int)) (x2 : (List Int)) (z27 : Int) : Option (Int ⊕ (Int ⊕ Unit)) :=
cond (decide (z27 < (x1.length : Int))) (
(ix x1 z27).bind fun a28 =>
cond (decide ((x2.length : Int) ≤ z27)) (
some (.inr (.inl 1))) (
(ix x2 z27).bind fun a29 =>
(x2[z27.toNat]?).bind fun a30 =>
(F61 k a28 a30).bind fun y31 => 
cond (y31 != 0) (
some (.inr (.inl y31))) (
some (.inl (IntKind.wrap .i64 (z27 + 1)))))) (
some (.inr (.inr ())))
noncomputable def F48 (k : Nat) (x1 : (List Int)) (x2 : (List Int)) : Option Int :=
(loopN (L48_6 k x1 x2) k 0).bind fun y32 => 
sel (fun y33 =>
some y33) (fun y34 =>
cond (decide ((x1.length : Int) < (x2.length : Int))) (
some (-1)) (
some 0)) y32
def A48 : CTpl := ⟨[.fz .u (.int .i32 .nil), .sl .u 1000000], [(1000000, .ar 21 (.int .i32 .nil))]⟩
def h48 : List HTy := [.tl (.int .i32 .nil), .tl (.int .i32 .nil)]
def R48 : List RTpl := [⟨.i .i64, [], [.ti]⟩]
def n48 : An := .sq (.nd) (.sq (.sq (.nd) (.lp [0, 1, 9, 10] [] ⟨[(11, .i .i64)], []⟩ [.ti] [(1, ⟨[(4, .i .i64)], []⟩), (2, ⟨[], []⟩)] [[.ti], []] (.nd))) (.nd))
theorem e48 (k : Nat) (y : Tup h48) : exec (P := Tryd.prog) D (lk rowsL) [C61 k] k (bodyOf Tryd.f48) n48 (fnE Tryd.f48 A48 [1000000] (inOf A48 (ofTup h48 y))) (fnSt [1000000] (inOf A48 (ofTup h48 y))) (leafR D (fnE Tryd.f48 A48 [1000000] (inOf A48 (ofTup h48 y))) Tryd.f48.results.toList (R48.map (·.h)) R48) = F48 k y.1 y.2 := by kernel_rfl
noncomputable def C48 (k : Nat) : Con Tryd.prog := ⟨48, Tryd.f48, Tryd.func48, by kernel_rfl, by kernel_rfl, A48, h48, [1000000], R48, fun y => F48 k y.1 y.2, fun y r h => con_ok good mixed (c := bodyOf Tryd.f48) Tryd.func48 (by kernel_rfl) n48 y ((e48 k y).trans h)⟩
noncomputable def L48_1_6 (k : Nat) (x1 : (List Int)) (x2 : (List Int)) (z22 : Int) : Option (Int ⊕ (Int ⊕ Unit)) :=
cond (decide (z22 < (x1.length : Int))) (
(ix x1 z22).bind fun a23 =>
cond (decide ((x2.length : Int) ≤ z22)) (
some (.inr (.inl 1))) (
(ix x2 z22).bind fun a24 =>
(F61 k a23 a24).bind fun y25 => 
cond (y25 != 0) (
some (.inr (.inl y25))) (
some (.inl (IntKind.wrap .i64 (z22 + 1)))))) (
some (.inr (.inr ())))
noncomputable def F48_1 (k : Nat) (x1 : (List Int)) (x2 : (List Int)) : Option Int :=
(loopN (L48_1_6 k x1 x2) k 0).bind fun y26 => 
sel (fun y27 =>
some y27) (fun y28 =>
cond (decide ((x1.length : Int) < (x2.length : Int))) (
some (-1)) (
some 0)) y26
def A48_1 : CTpl := ⟨[.fz .u (.int .i32 .nil), .fz .u (.int .i32 .nil)], []⟩
def h48_1 : List HTy := [.tl (.int .i32 .nil), .tl (.int .i32 .nil)]
def R48_1 : List RTpl := [⟨.i .i64, [], [.ti]⟩]
def n48_1 : An := .sq (.nd) (.sq (.sq (.nd) (.lp [0, 1, 9, 10] [] ⟨[(11, .i .i64)], []⟩ [.ti] [(1, ⟨[(4, .i .i64)], []⟩), (2, ⟨[], []⟩)] [[.ti], []] (.nd))) (.nd))
theorem e48_1 (k : Nat) (y : Tup h48_1) : exec (P := Tryd.prog) D (lk rowsL) [C61 k] k (bodyOf Tryd.f48) n48_1 (fnE Tryd.f48 A48_1 [] (inOf A48_1 (ofTup h48_1 y))) (fnSt [] (inOf A48_1 (ofTup h48_1 y))) (leafR D (fnE Tryd.f48 A48_1 [] (inOf A48_1 (ofTup h48_1 y))) Tryd.f48.results.toList (R48_1.map (·.h)) R48_1) = F48_1 k y.1 y.2 := by kernel_rfl
noncomputable def C48_1 (k : Nat) : Con Tryd.prog := ⟨48, Tryd.f48, Tryd.func48, by kernel_rfl, by kernel_rfl, A48_1, h48_1, [], R48_1, fun y => F48_1 k y.1 y.2, fun y r h => con_ok good mixed (c := bodyOf Tryd.f48) Tryd.func48 (by kernel_rfl) n48_1 y ((e48_1 k y).trans h)⟩
noncomputable def F40 (k : Nat) (x1 : ByteArray) (x2 : ByteArray) : Option Int :=
(F47 k x1).bind fun y3 => 
(F47 k x2).bind fun y4 => 
(F48_1 k y3 y4).bind fun y5 => 
some y5
def A40 : CTpl := ⟨[.s, .s], []⟩
def h40 : List HTy := [.ts, .ts]
def R40 : List RTpl := [⟨.i .i64, [], [.ti]⟩]
def n40 : An := .sq (.nd) (.sq (.nd) (.sq (.fr [(2, 400800), (2, 401000)]) (.nd)))
theorem e40 (k : Nat) (y : Tup h40) : exec (P := Tryd.prog) D (lk rowsL) [C47 k, C48_1 k] k (bodyOf Tryd.f40) n40 (fnE Tryd.f40 A40 [] (inOf A40 (ofTup h40 y))) (fnSt [] (inOf A40 (ofTup h40 y))) (leafR D (fnE Tryd.f40 A40 [] (inOf A40 (ofTup h40 y))) Tryd.f40.results.toList (R40.map (·.h)) R40) = F40 k y.1 y.2 := by kernel_rfl
noncomputable def C40 (k : Nat) : Con Tryd.prog := ⟨40, Tryd.f40, Tryd.func40, by kernel_rfl, by kernel_rfl, A40, h40, [], R40, fun y => F40 k y.1 y.2, fun y r h => con_ok good mixed (c := bodyOf Tryd.f40) Tryd.func40 (by kernel_rfl) n40 y ((e40 k y).trans h)⟩
noncomputable def F41 (k : Nat) (x1 : ByteArray) (x2 : ByteArray) : Option Int :=
some (Go.Lib.compareBytes x1.data.toList x2.data.toList)
def A41 : CTpl := ⟨[.s, .s], []⟩
def h41 : List HTy := [.ts, .ts]
def R41 : List RTpl := [⟨.i .i64, [], [.ti]⟩]
def n41 : An := .nd
noncomputable def C41 (k : Nat) : Con Tryd.prog := ⟨41, Tryd.f41, Tryd.func41, by kernel_rfl, by kernel_rfl, A41, h41, [], R41, fun y => F41 k y.1 y.2, fun y r h => by
  have h2 : some (Go.Lib.compareBytes y.1.data.toList y.2.data.toList) = some r := h
  cases h2
  exact CTx.lib (vs := [.string y.1, .string y.2]) rfl (fun _ _ _ => .t _ _ (.sc _ rfl)) fun w _ => (Tryd.strings_Compare y.1 y.2 w).mono fun e w2 g => ⟨g.1, by rw [g.2]; exact Below.refl _ _, fun _ => by rw [g.2]; exact Nat.le_refl _⟩⟩
noncomputable def F39 (k : Nat) (x1 : ByteArray) (x2 : ByteArray) : Option Int :=
(F40 k x1 x2).bind fun y3 => 
cond (y3 != 0) (
some y3) (
(F41 k x1 x2).bind fun y4 => 
some y4)
def A39 : CTpl := ⟨[.s, .s], []⟩
def h39 : List HTy := [.ts, .ts]
def R39 : List RTpl := [⟨.i .i64, [], [.ti]⟩]
def n39 : An := .nd
theorem e39 (k : Nat) (y : Tup h39) : exec (P := Tryd.prog) D (lk rowsL) [C40 k, C41 k] k (bodyOf Tryd.f39) n39 (fnE Tryd.f39 A39 [] (inOf A39 (ofTup h39 y))) (fnSt [] (inOf A39 (ofTup h39 y))) (leafR D (fnE Tryd.f39 A39 [] (inOf A39 (ofTup h39 y))) Tryd.f39.results.toList (R39.map (·.h)) R39) = F39 k y.1 y.2 := by kernel_rfl
noncomputable def C39 (k : Nat) : Con Tryd.prog := ⟨39, Tryd.f39, Tryd.func39, by kernel_rfl, by kernel_rfl, A39, h39, [], R39, fun y => F39 k y.1 y.2, fun y r h => con_ok good mixed (c := bodyOf Tryd.f39) Tryd.func39 (by kernel_rfl) n39 y ((e39 k y).trans h)⟩
noncomputable def F38 (k : Nat) (x1 : (List ByteArray)) : Option (List ByteArray) :=
sortF (F39 k) x1
def A38 : CTpl := ⟨[.sl .u 1000000, .c (.func (.func 39) #[] #[])], [(1000000, .ar 9 (.str .nil))]⟩
def h38 : List HTy := [.tl (.str .nil)]
def R38 : List RTpl := [⟨.tp [], [(1000000, .ar 9 (.str .nil))], [.tl (.str .nil)]⟩]
def n38 : An := .nd
noncomputable def C38 (k : Nat) : Con Tryd.prog := ⟨38, Tryd.f38, Tryd.func38, by kernel_rfl, by kernel_rfl, A38, h38, [], R38, fun y => F38 k y, fun y r h => by
  have h2 : sortF (F39 k) y = some r := h
  exact CTx.sortFunc (ρ := Tryd.laysSlF6_f38_ren) Tryd.laysSlF6_f38 { Tryd.laysSlF6_f38 with } (enters Tryd.func39 (by kernel_rfl) (by kernel_rfl)) (fun a b n g => @Con.ok ⟨true⟩ _ (@C39 ⟨true⟩ k) (a, b) n g) 9 h2⟩
noncomputable def L42_32 (k : Nat) (z156 : (Int × (List ByteArray))) (z161 : (Int × Int × (List ByteArray))) : Option ((Int × Int × (List ByteArray)) ⊕ (Int × (List ByteArray))) :=
cond (decide (z161.2.1 < (((((z156.2.length : Int).toNat) - z156.1.toNat) : Nat) : Int))) (
((grd (decide (0 ≤ z161.2.1 ∧ z161.2.1 < (((((z156.2.length : Int).toNat) - z156.1.toNat) : Nat) : Int))) <|
(z161.2.2[(z156.1.toNat + z161.2.1.toNat)]?).bind fun a162 =>
grd (decide (0 ≤ (IntKind.wrap .i64 (z161.2.1 - 1)) ∧ (IntKind.wrap .i64 (z161.2.1 - 1)) < (((((z156.2.length : Int).toNat) - z156.1.toNat) : Nat) : Int))) <|
(z161.2.2[(z156.1.toNat + ((IntKind.wrap .i64 (z161.2.1 - 1)).toNat))]?).bind fun a163 =>
cond (!(a162.toList == a163.toList)) (
grd (decide (0 ≤ z161.2.1 ∧ z161.2.1 < (((((z156.2.length : Int).toNat) - z156.1.toNat) : Nat) : Int))) <|
(z161.2.2[(z156.1.toNat + z161.2.1.toNat)]?).bind fun a164 =>
(ix z161.2.2 z161.1).bind fun a165 =>
((z161.2.2[z161.1.toNat]?).bind fun a166 => some a164).bind fun a167 =>
some ((IntKind.wrap .i64 (z161.1 + 1)), (z161.2.2.set z161.1.toNat a167))) (
some (z161.1, z161.2.2)) : Option (Int × (List ByteArray)))).bind fun y168 => 
some (.inl (y168.1, (IntKind.wrap .i64 (z161.2.1 + 1)), y168.2))) (
some (.inr (z161.1, z161.2.2)))
noncomputable def L42_14 (k : Nat) (z156 : (Int × (List ByteArray))) : Option ((Int × (List ByteArray)) ⊕ ((Nat × Nat × (List ByteArray)) ⊕ (List ByteArray))) :=
cond (decide (z156.1 < (z156.2.length : Int))) (
(ix z156.2 z156.1).bind fun a157 =>
(z156.2[z156.1.toNat]?).bind fun a158 =>
(ix z156.2 (IntKind.wrap .i64 (z156.1 - 1))).bind fun a159 =>
(z156.2[(IntKind.wrap .i64 (z156.1 - 1)).toNat]?).bind fun a160 =>
cond (a158.toList == a160.toList) (
grd (bnds (z156.2.length : Int) z156.1 (z156.2.length : Int)) <|
(loopN (L42_32 k z156) k (z156.1, 1, z156.2)).bind fun y169 => 
grd (bnds (y169.2.length : Int) y169.1 (y169.2.length : Int)) <|
grd (bnds ((y169.2.take y169.1.toNat ++ List.replicate (((y169.2.length : Int).toNat) - y169.1.toNat) ByteArray.empty ++ y169.2.drop (y169.1.toNat + (((y169.2.length : Int).toNat) - y169.1.toNat))).length : Int) 0 y169.1) <|
some (.inr (.inl (0, (y169.1.toNat - 0), (y169.2.take y169.1.toNat ++ List.replicate (((y169.2.length : Int).toNat) - y169.1.toNat) ByteArray.empty ++ y169.2.drop (y169.1.toNat + (((y169.2.length : Int).toNat) - y169.1.toNat))))))) (
some (.inl ((IntKind.wrap .i64 (z156.1 + 1)), z156.2)))) (
some (.inr (.inr z156.2)))
noncomputable def F42 (k : Nat) (x1 : (List ByteArray)) : Option (List ByteArray) :=
cond (decide ((x1.length : Int) < 2)) (
some x1) (
(loopN (L42_14 k) k (1, x1)).bind fun y170 => 
sel (fun y171 =>
some ((y171.2.2.drop y171.1).take y171.2.1)) (fun y172 =>
some y172) y170)
def A42 : CTpl := ⟨[.sl .u 1000000], [(1000000, .ar 9 (.str .nil))]⟩
def h42 : List HTy := [.tl (.str .nil)]
def R42 : List RTpl := [⟨.fz .u (.str .nil), [(1000000, .gone)], [.tl (.str .nil)]⟩]
def n42 : An := .sq (.nd) (.sq (.nd) (.sq (.sq (.nd) (.lp [0] [] ⟨[(3, .i .i64)], [(1000000, .ar 9 (.str .nil))]⟩ [.ti, .tl (.str .nil)] [(1, ⟨[(2, .sw 1000000)], [(1000000, .ar 9 (.str .nil))]⟩), (2, ⟨[], [(1000000, .ar 9 (.str .nil))]⟩)] [[.tn, .tn, .tl (.str .nil)], [.tl (.str .nil)]] (.sq (.nd) (.sq (.sq (.mk [] [0, 0, 3, 7, 0, 0, 32, 112, 240, 511]) (.sq (.sq (.nd) (.sq (.sq (.nd) (.lp [4] [] ⟨[(3, .i .i64), (5, .i .i64)], [(1000000, .ar 9 (.str .nil))]⟩ [.ti, .ti, .tl (.str .nil)] [(4, ⟨[(3, .i .i64)], [(1000000, .ar 9 (.str .nil))]⟩)] [[.ti, .tl (.str .nil)]] (.sq (.nd) (.jn [5] [] [(0, ⟨[(3, .i .i64)], [(1000000, .ar 9 (.str .nil))]⟩)] [[.ti, .tl (.str .nil)]] (.sq (.mk [] [0, 0, 3, 7, 0, 0, 32, 112, 240, 511]) (.nd)) (.nd))))) (.nd))) (.nd))) (.nd))))) (.nd)))
theorem e42 (k : Nat) (y : Tup h42) : exec (P := Tryd.prog) D (lk rowsL) [] k (bodyOf Tryd.f42) n42 (fnE Tryd.f42 A42 [] (inOf A42 (ofTup h42 y))) (fnSt [] (inOf A42 (ofTup h42 y))) (leafR D (fnE Tryd.f42 A42 [] (inOf A42 (ofTup h42 y))) Tryd.f42.results.toList (R42.map (·.h)) R42) = F42 k y := by kernel_rfl
noncomputable def C42 (k : Nat) : Con Tryd.prog := ⟨42, Tryd.f42, Tryd.func42, by kernel_rfl, by kernel_rfl, A42, h42, [], R42, fun y => F42 k y, fun y r h => con_ok good mixed (c := bodyOf Tryd.f42) Tryd.func42 (by kernel_rfl) n42 y ((e42 k y).trans h)⟩
noncomputable def F32 (k : Nat) (x1 : (List ByteArray)) : Option (List ByteArray) :=
(F37 k x1).bind fun y2 => 
(F38 k y2).bind fun y4 => 
(F42 k y4).bind fun y5 => 
some y5
def A32 : CTpl := ⟨[.fz .u (.str .nil)], []⟩
def h32 : List HTy := [.tl (.str .nil)]
def R32 : List RTpl := [⟨.fz .u (.str .nil), [], [.tl (.str .nil)]⟩]
def n32 : An := .nd
theorem e32 (k : Nat) (y : Tup h32) : exec (P := Tryd.prog) D (lk rowsL) [C37 k, C38 k, C42 k] k (bodyOf Tryd.f32) n32 (fnE Tryd.f32 A32 [] (inOf A32 (ofTup h32 y))) (fnSt [] (inOf A32 (ofTup h32 y))) (leafR D (fnE Tryd.f32 A32 [] (inOf A32 (ofTup h32 y))) Tryd.f32.results.toList (R32.map (·.h)) R32) = F32 k y := by kernel_rfl
noncomputable def C32 (k : Nat) : Con Tryd.prog := ⟨32, Tryd.f32, Tryd.func32, by kernel_rfl, by kernel_rfl, A32, h32, [], R32, fun y => F32 k y, fun y r h => con_ok good mixed (c := bodyOf Tryd.f32) Tryd.func32 (by kernel_rfl) n32 y ((e32 k y).trans h)⟩
noncomputable def L23_16 (k : Nat) {R : Type} (z11 : (((List (ByteArray × (ByteArray × Bool × ByteArray × Int))) × (List (ByteArray × (ByteArray × Bool × ByteArray × Int)))) × (List ByteArray))) (Kin : (((List (ByteArray × (ByteArray × Bool × ByteArray × Int))) × (List (ByteArray × (ByteArray × Bool × ByteArray × Int)))) × (List ByteArray)) → Option R) (Kout : ((List (ByteArray × (ByteArray × Bool × ByteArray × Int))) × (List ByteArray)) → Option R) : Option R :=
cond z11.1.2.isEmpty (
Kout (z11.1.1, z11.2)) (
anyL z11.1.2 fun j12 => fun a13 =>
grd (decide ((z11.2.length + [a13.1].length) * 16 ≤ 140737488355328)) <|
Kin ((z11.1.1, (List.eraseIdx z11.1.2 j12)), (z11.2 ++ [a13.1])))
noncomputable def F23 (k : Nat) (x1 : (List (ByteArray × (ByteArray × Bool × ByteArray × Int)))) : Option ((List ByteArray) × (List (ByteArray × (ByteArray × Bool × ByteArray × Int)))) :=
loopC (L23_16 k) k ((x1, x1), ([] : List ByteArray)) fun y14 => 
(F32 k y14.2).bind fun y15 => 
some (y15, y14.1)
def A23 : CTpl := ⟨[.pt 1000000 0], [(1000000, .bx 60 [.mp 1000001]), (1000001, .mp ⟨.s, true, (.str (.bool (.str (.int .u32 .nil))))⟩)]⟩
def h23 : List HTy := [.tm ⟨.s, true, (.str (.bool (.str (.int .u32 .nil))))⟩]
def R23 : List RTpl := [⟨.fz .u (.str .nil), [(1000000, .bx 60 [.mp 1000001]), (1000001, .mp ⟨.s, true, (.str (.bool (.str (.int .u32 .nil))))⟩)], [.tl (.str .nil), .tm ⟨.s, true, (.str (.bool (.str (.int .u32 .nil))))⟩]⟩]
def n23 : An := .sq (.nd) (.sq (.nd) (.sq (.nd) (.sq (.sq (.nd) (.lc [11] [11, 1000000] ⟨[(3, .sl .n 300800)], [(1000001, .mq ⟨.s, true, (.str (.bool (.str (.int .u32 .nil))))⟩ 11), (300800, .ar 9 (.str .nil))]⟩ [.tq ⟨.s, true, (.str (.bool (.str (.int .u32 .nil))))⟩, .tl (.str .nil)] [(2, ⟨[(3, .sl .n 300825)], [(1000001, .mp ⟨.s, true, (.str (.bool (.str (.int .u32 .nil))))⟩), (300825, .ar 9 (.str .nil))]⟩)] [[.tm ⟨.s, true, (.str (.bool (.str (.int .u32 .nil))))⟩, .tl (.str .nil)]] (.nd))) (.sq (.fr [(1, 300825)]) (.nd)))))
theorem e23 (k : Nat) (y : Tup h23) : exec (P := Tryd.prog) D (lk rowsL) [C32 k] k (bodyOf Tryd.f23) n23 (fnE Tryd.f23 A23 [] (inOf A23 (ofTup h23 y))) (fnSt [] (inOf A23 (ofTup h23 y))) (leafR D (fnE Tryd.f23 A23 [] (inOf A23 (ofTup h23 y))) Tryd.f23.results.toList (R23.map (·.h)) R23) = F23 k y := by kernel_rfl
noncomputable def C23 (k : Nat) : Con Tryd.prog := ⟨23, Tryd.f23, Tryd.func23, by kernel_rfl, by kernel_rfl, A23, h23, [], R23, fun y => F23 k y, fun y r h => con_ok good mixed (c := bodyOf Tryd.f23) Tryd.func23 (by kernel_rfl) n23 y ((e23 k y).trans h)⟩
noncomputable def L24_8 (k : Nat) (x1 : (List (ByteArray × Bool × ByteArray × Int))) (z8 : (Int × (List ByteArray))) : Option ((Int × (List ByteArray)) ⊕ (List ByteArray)) :=
cond (decide (z8.1 < (x1.length : Int))) (
(ix x1 z8.1).bind fun a9 =>
grd (decide ((z8.2.length + [a9.1].length) * 16 ≤ 140737488355328)) <|
some (.inl ((IntKind.wrap .i64 (z8.1 + 1)), (z8.2 ++ [a9.1])))) (
some (.inr z8.2))
noncomputable def F24 (k : Nat) (x1 : (List (ByteArray × Bool × ByteArray × Int))) : Option (List ByteArray) :=
(loopN (L24_8 k x1) k (0, ([] : List ByteArray))).bind fun y10 => 
some y10
def A24 : CTpl := ⟨[.pt 1000000 0], [(1000000, .bx 47 [.fz .u (.str (.bool (.str (.int .u32 .nil))))])]⟩
def h24 : List HTy := [.tl (.str (.bool (.str (.int .u32 .nil))))]
def R24 : List RTpl := [⟨.sl .u 500000, [(500000, .ar 9 (.str .nil))], [.tl (.str .nil)]⟩]
def n24 : An := .sq (.nd) (.sq (.nd) (.sq (.sq (.nd) (.lp [0] [] ⟨[(3, .sl .n 300400), (4, .i .i64)], [(300400, .ar 9 (.str .nil))]⟩ [.ti, .tl (.str .nil)] [(2, ⟨[(3, .sl .n 300425)], [(300425, .ar 9 (.str .nil))]⟩)] [[.tl (.str .nil)]] (.nd))) (.nd)))
theorem e24 (k : Nat) (y : Tup h24) : exec (P := Tryd.prog) D (lk rowsL) [] k (bodyOf Tryd.f24) n24 (fnE Tryd.f24 A24 [1000000] (inOf A24 (ofTup h24 y))) (fnSt [1000000] (inOf A24 (ofTup h24 y))) (leafR D (fnE Tryd.f24 A24 [1000000] (inOf A24 (ofTup h24 y))) Tryd.f24.results.toList (R24.map (·.h)) R24) = F24 k y := by kernel_rfl
noncomputable def C24 (k : Nat) : Con Tryd.prog := ⟨24, Tryd.f24, Tryd.func24, by kernel_rfl, by kernel_rfl, A24, h24, [1000000], R24, fun y => F24 k y, fun y r h => con_ok good mixed (c := bodyOf Tryd.f24) Tryd.func24 (by kernel_rfl) n24 y ((e24 k y).trans h)⟩
noncomputable def L22_14 (k : Nat) (x1 : (List ByteArray)) (x2 : (List ByteArray)) (z15 : Int) : Option (Int ⊕ (Unit ⊕ Unit)) :=
cond (decide (z15 < (x1.length : Int))) (
(ix x1 z15).bind fun a16 =>
(ix x2 z15).bind fun a17 =>
cond (!(a16.toList == a17.toList)) (
some (.inr (.inl ()))) (
some (.inl (IntKind.wrap .i64 (z15 + 1))))) (
some (.inr (.inr ())))
noncomputable def F22 (k : Nat) (x1 : (List ByteArray)) (x2 : (List ByteArray)) : Option Bool :=
cond ((x1.length : Int) != (x2.length : Int)) (
some false) (
(loopN (L22_14 k x1 x2) k 0).bind fun y18 => 
sel (fun y19 =>
some false) (fun y20 =>
some true) y18)
def A22 : CTpl := ⟨[.fz .u (.str .nil), .fz .u (.str .nil)], []⟩
def h22 : List HTy := [.tl (.str .nil), .tl (.str .nil)]
def R22 : List RTpl := [⟨.b, [], [.tb]⟩]
def n22 : An := .sq (.nd) (.sq (.nd) (.sq (.sq (.nd) (.lp [0, 1] [] ⟨[(5, .i .i64)], []⟩ [.ti] [(1, ⟨[(4, .lb false)], []⟩), (2, ⟨[], []⟩)] [[], []] (.sq (.nd) (.sq (.sq (.mk [] [0, 0, 3, 7, 0, 0, 48, 112, 255]) (.nd)) (.nd))))) (.nd)))
theorem e22 (k : Nat) (y : Tup h22) : exec (P := Tryd.prog) D (lk rowsL) [] k (bodyOf Tryd.f22) n22 (fnE Tryd.f22 A22 [] (inOf A22 (ofTup h22 y))) (fnSt [] (inOf A22 (ofTup h22 y))) (leafR D (fnE Tryd.f22 A22 [] (inOf A22 (ofTup h22 y))) Tryd.f22.results.toList (R22.map (·.h)) R22) = F22 k y.1 y.2 := by kernel_rfl
noncomputable def C22 (k : Nat) : Con Tryd.prog := ⟨22, Tryd.f22, Tryd.func22, by kernel_rfl, by kernel_rfl, A22, h22, [], R22, fun y => F22 k y.1 y.2, fun y r h => con_ok good mixed (c := bodyOf Tryd.f22) Tryd.func22 (by kernel_rfl) n22 y ((e22 k y).trans h)⟩
noncomputable def L18_1_14 (k : Nat) (x1 : (List (ByteArray × Bool × ByteArray × Int))) (x2 : (List (ByteArray × Bool × ByteArray × Int))) (z20 : Int) : Option (Int ⊕ (Unit ⊕ Unit)) :=
cond (decide (z20 < (x2.length : Int))) (
(ix x2 z20).bind fun a21 =>
(x2[z20.toNat]?).bind fun a22 =>
(ix x1 z20).bind fun a23 =>
cond (!((a22.1.toList == a23.1.toList) && ((a22.2.1 == a23.2.1) && ((a22.2.2.1.toList == a23.2.2.1.toList) && ((a22.2.2.2 == a23.2.2.2) && true))))) (
some (.inr (.inl ()))) (
some (.inl (IntKind.wrap .i64 (z20 + 1))))) (
some (.inr (.inr ())))
noncomputable def F18_1 (k : Nat) (x1 : (List (ByteArray × Bool × ByteArray × Int))) (x2 : (List (ByteArray × Bool × ByteArray × Int))) : Option Bool :=
cond ((x2.length : Int) != (x1.length : Int)) (
some false) (
(loopN (L18_1_14 k x1 x2) k 0).bind fun y24 => 
sel (fun y25 =>
some false) (fun y26 =>
some true) y24)
def A18_1 : CTpl := ⟨[.sl .u 1000000, .fz .u (.str (.bool (.str (.int .u32 .nil))))], [(1000000, .ar 38 (.str (.bool (.str (.int .u32 .nil)))))]⟩
def h18_1 : List HTy := [.tl (.str (.bool (.str (.int .u32 .nil)))), .tl (.str (.bool (.str (.int .u32 .nil))))]
def R18_1 : List RTpl := [⟨.b, [], [.tb]⟩]
def n18_1 : An := .sq (.nd) (.sq (.nd) (.sq (.sq (.nd) (.lp [0, 1] [] ⟨[(5, .i .i64)], []⟩ [.ti] [(1, ⟨[(4, .lb false)], []⟩), (2, ⟨[], []⟩)] [[], []] (.sq (.nd) (.sq (.sq (.mk [] [0, 0, 3, 7, 0, 0, 48, 112, 255]) (.nd)) (.nd))))) (.nd)))
theorem e18_1 (k : Nat) (y : Tup h18_1) : exec (P := Tryd.prog) D (lk rowsL) [] k (bodyOf Tryd.f18) n18_1 (fnE Tryd.f18 A18_1 [1000000] (inOf A18_1 (ofTup h18_1 y))) (fnSt [1000000] (inOf A18_1 (ofTup h18_1 y))) (leafR D (fnE Tryd.f18 A18_1 [1000000] (inOf A18_1 (ofTup h18_1 y))) Tryd.f18.results.toList (R18_1.map (·.h)) R18_1) = F18_1 k y.1 y.2 := by kernel_rfl
noncomputable def C18_1 (k : Nat) : Con Tryd.prog := ⟨18, Tryd.f18, Tryd.func18, by kernel_rfl, by kernel_rfl, A18_1, h18_1, [1000000], R18_1, fun y => F18_1 k y.1 y.2, fun y r h => con_ok good mixed (c := bodyOf Tryd.f18) Tryd.func18 (by kernel_rfl) n18_1 y ((e18_1 k y).trans h)⟩
noncomputable def L4_61 (k : Nat) (z435 : (Int × (List (ByteArray × Bool × ByteArray)))) : Option ((Int × (List (ByteArray × Bool × ByteArray))) ⊕ (List (ByteArray × Bool × ByteArray))) :=
cond (decide (z435.1 < (z435.2.length : Int))) (
(ix z435.2 z435.1).bind fun a436 =>
((z435.2[z435.1.toNat]?).bind fun a437 => some (a437.1, a437.2.1, (⟨#[116, 117, 114, 110, 101, 100]⟩ : ByteArray))).bind fun a438 =>
some (.inl ((IntKind.wrap .i64 (z435.1 + 1)), (z435.2.set z435.1.toNat a438)))) (
some (.inr z435.2))
noncomputable def L4_18 (k : Nat) (x1 : (List (Int × Int × (List (Int × Bool × ByteArray)) × (List (ByteArray × Bool × ByteArray)) × (List ByteArray) × Bool))) (z419 : (Int × (List (ByteArray × Bool × ByteArray × Int)) × (List (ByteArray × (ByteArray × Bool × ByteArray × Int))))) : Option ((Int × (List (ByteArray × Bool × ByteArray × Int)) × (List (ByteArray × (ByteArray × Bool × ByteArray × Int)))) ⊕ (((List (ByteArray × Bool × ByteArray × Int)) × (List (ByteArray × (ByteArray × Bool × ByteArray × Int)))) ⊕ ((List (ByteArray × Bool × ByteArray × Int)) × (List (ByteArray × (ByteArray × Bool × ByteArray × Int)))))) :=
((cond (decide (z419.1 < (x1.length : Int))) (
some (decide (z419.1 < 40))) (
some false) : Option Bool)).bind fun y420 => 
cond y420 (
(ix x1 z419.1).bind fun a421 =>
(((F15 k a421.1 8).bind fun y422 => 
cond (y422 == 5) (
(F16 k a421.1 a421.2.1 a421.2.2.1 a421.2.2.2.1 a421.2.2.2.2.1 a421.2.2.2.2.2).bind fun y423 => 
(F13 k y423 z419.2.2).bind fun y424 => 
(F16 k a421.1 a421.2.1 a421.2.2.1 a421.2.2.2.1 a421.2.2.2.2.1 a421.2.2.2.2.2).bind fun y425 => 
(F17 k y425 z419.2.1).bind fun y426 => 
some (.inl (y426, y424))) (
((cond (y422 == 6) (
some (y422 == 6)) (
some (y422 == 7)) : Option Bool)).bind fun y427 => 
cond y427 (
(F16 k a421.1 a421.2.1 a421.2.2.1 a421.2.2.2.1 a421.2.2.2.2.1 a421.2.2.2.2.2).bind fun y428 => 
(F11_1 k y428 z419.2.2).bind fun y429 => 
(F16 k a421.1 a421.2.1 a421.2.2.1 a421.2.2.2.1 a421.2.2.2.2.1 a421.2.2.2.2.2).bind fun y430 => 
(F19 k z419.2.1 y430).bind fun y431 => 
(F18 k y429 y431).bind fun y432 => 
cond (!y432) (
some (.inr (z419.2.1, z419.2.2))) (
some (.inl (z419.2.1, z419.2.2)))) (
(F20 k a421.1 a421.2.1 a421.2.2.1 a421.2.2.2.1 a421.2.2.2.2.1 a421.2.2.2.2.2).bind fun y433 => 
(F8_1 k a421.2.1 y433 z419.2.2).bind fun y434 => 
(loopN (L4_61 k) k (0, y433)).bind fun y439 => 
(F20 k a421.1 a421.2.1 a421.2.2.1 a421.2.2.2.1 a421.2.2.2.2.1 a421.2.2.2.2.2).bind fun y440 => 
(F21 k a421.2.1 z419.2.1 y440).bind fun y441 => 
some (.inl (y441, y434)))) : Option (((List (ByteArray × Bool × ByteArray × Int)) × (List (ByteArray × (ByteArray × Bool × ByteArray × Int)))) ⊕ ((List (ByteArray × Bool × ByteArray × Int)) × (List (ByteArray × (ByteArray × Bool × ByteArray × Int))))))).bind fun y442 => 
sel (fun y443 =>
(F23 k y443.2).bind fun y445 => 
(F24 k y443.1).bind fun y446 => 
(F22 k y445.1 y446).bind fun y447 => 
cond (!y447) (
some (.inr (.inl (y443.1, y445.2)))) (
some (.inl ((IntKind.wrap .i64 (z419.1 + 1)), y443.1, y445.2)))) (fun y444 =>
some (.inr (.inl (y444.1, y444.2)))) y442) (
some (.inr (.inr (z419.2.1, z419.2.2))))
noncomputable def F4 (k : Nat) (x1 : (List (Int × Int × (List (Int × Bool × ByteArray)) × (List (ByteArray × Bool × ByteArray)) × (List ByteArray) × Bool))) : Option Bool :=
(F6 k).bind fun y2 => 
(((F7 k).bind fun y6 => 
cond (!y6) (
some true) (
some false) : Option Bool)).bind fun y7 => 
cond y7 (
some false) (
(loopN (L4_18 k x1) k (0, ([] : List (ByteArray × Bool × ByteArray × Int)), y2)).bind fun y448 => 
sel (fun y449 =>
some false) (fun y450 =>
(F24 k y450.1).bind fun y451 => 
(F11_1 k y451 y450.2).bind fun y452 => 
(F18_1 k y450.1 y452).bind fun y453 => 
some y453) y448)
def A4 : CTpl := ⟨[.fz .u (.int .i64 (.int .u32 (.sl (.int .i64 (.bool (.str .nil))) (.sl (.str (.bool (.str .nil))) (.sl (.str .nil) (.bool .nil))))))], []⟩
def h4 : List HTy := [.tl (.int .i64 (.int .u32 (.sl (.int .i64 (.bool (.str .nil))) (.sl (.str (.bool (.str .nil))) (.sl (.str .nil) (.bool .nil))))))]
def R4 : List RTpl := [⟨.b, [], [.tb]⟩]
def n4 : An := .sq (.nd) (.sq (.nd) (.sq (.jn [0, 3] [400900, 400901] [(0, ⟨[(15, .b)], []⟩)] [[.tb]] (.nd) (.nd)) (.sq (.nd) (.sq (.sq (.nd) (.lp [0, 3, 4] [] ⟨[(5, .i .i64)], [(400900, .bx 60 [.mp 400901]), (17, .bx 47 [.fz .u (.str (.bool (.str (.int .u32 .nil))))]), (400901, .mp ⟨.s, true, (.str (.bool (.str (.int .u32 .nil))))⟩)]⟩ [.ti, .tl (.str (.bool (.str (.int .u32 .nil)))), .tm ⟨.s, true, (.str (.bool (.str (.int .u32 .nil))))⟩] [(1, ⟨[(2, .lb false)], [(400900, .bx 60 [.mp 400901]), (17, .bx 47 [.fz .u (.str (.bool (.str (.int .u32 .nil))))]), (400901, .mp ⟨.s, true, (.str (.bool (.str (.int .u32 .nil))))⟩)]⟩), (2, ⟨[], [(400900, .bx 60 [.mp 400901]), (17, .bx 47 [.fz .u (.str (.bool (.str (.int .u32 .nil))))]), (400901, .mp ⟨.s, true, (.str (.bool (.str (.int .u32 .nil))))⟩)]⟩)] [[.tl (.str (.bool (.str (.int .u32 .nil)))), .tm ⟨.s, true, (.str (.bool (.str (.int .u32 .nil))))⟩], [.tl (.str (.bool (.str (.int .u32 .nil)))), .tm ⟨.s, true, (.str (.bool (.str (.int .u32 .nil))))⟩]] (.sq (.jn [5] [17, 400900, 400901] [(0, ⟨[(25, .b)], []⟩)] [[.tb]] (.nd) (.nd)) (.sq (.sq (.nd) (.jn [5] [] [(0, ⟨[], [(400900, .bx 60 [.mp 400901]), (17, .bx 47 [.fz .u (.str (.bool (.str (.int .u32 .nil))))]), (400901, .mp ⟨.s, true, (.str (.bool (.str (.int .u32 .nil))))⟩)]⟩), (1, ⟨[(2, .lb false)], [(400900, .bx 60 [.mp 400901]), (17, .bx 47 [.fz .u (.str (.bool (.str (.int .u32 .nil))))]), (400901, .mp ⟨.s, true, (.str (.bool (.str (.int .u32 .nil))))⟩)]⟩)] [[.tl (.str (.bool (.str (.int .u32 .nil)))), .tm ⟨.s, true, (.str (.bool (.str (.int .u32 .nil))))⟩], [.tl (.str (.bool (.str (.int .u32 .nil)))), .tm ⟨.s, true, (.str (.bool (.str (.int .u32 .nil))))⟩]] (.sq (.nd) (.sq (.nd) (.sq (.sq (.fr [(3, 406200)]) (.fr [(3, 406600)])) (.jn [6] [6, 17, 400900, 400901] [(0, ⟨[(68, .b)], []⟩)] [[.tb]] (.nd) (.sq (.sq (.mk [] [0, 0, 2, 7, 0, 0, 47, 127, 255, 511]) (.nd)) (.sq (.nd) (.sq (.nd) (.sq (.sq (.nd) (.lp [6, 7] [6, 17, 400900, 400901] ⟨[(8, .i .i64)], [(403600, .ar 40 (.str (.bool (.str .nil))))]⟩ [.ti, .tl (.str (.bool (.str .nil)))] [(5, ⟨[], [(403600, .ar 40 (.str (.bool (.str .nil))))]⟩)] [[.tl (.str (.bool (.str .nil)))]] (.nd))) (.mk [] [0, 0, 2, 0, 8, 31]))))))))) (.sq (.fr [(4, 408400)]) (.nd)))) (.nd))))) (.sq (.mk [] [0, 0, 2, 7, 0, 16, 48, 112, 255, 511]) (.nd))))))
theorem e4 (k : Nat) (y : Tup h4) : exec (P := Tryd.prog) D (lk rowsL) [C6 k, C7 k, C15 k, C16 k, C13 k, C17 k, C11_1 k, C19 k, C18 k, C20 k, C8_1 k, C21 k, C23 k, C24 k, C22 k, C18_1 k] k (bodyOf Tryd.f4) n4 (fnE Tryd.f4 A4 [] (inOf A4 (ofTup h4 y))) (fnSt [] (inOf A4 (ofTup h4 y))) (leafR D (fnE Tryd.f4 A4 [] (inOf A4 (ofTup h4 y))) Tryd.f4.results.toList (R4.map (·.h)) R4) = F4 k y := by kernel_rfl
noncomputable def C4 (k : Nat) : Con Tryd.prog := ⟨4, Tryd.f4, Tryd.func4, by kernel_rfl, by kernel_rfl, A4, h4, [], R4, fun y => F4 k y, fun y r h => con_ok good mixed (c := bodyOf Tryd.f4) Tryd.func4 (by kernel_rfl) n4 y ((e4 k y).trans h)⟩
noncomputable def L18_2_14 (k : Nat) (x1 : (List (ByteArray × Bool × ByteArray × Int))) (x2 : (List (ByteArray × Bool × ByteArray × Int))) (z20 : Int) : Option (Int ⊕ (Unit ⊕ Unit)) :=
cond (decide (z20 < (x1.length : Int))) (
(ix x1 z20).bind fun a21 =>
(ix x2 z20).bind fun a22 =>
(x2[z20.toNat]?).bind fun a23 =>
cond (!((a21.1.toList == a23.1.toList) && ((a21.2.1 == a23.2.1) && ((a21.2.2.1.toList == a23.2.2.1.toList) && ((a21.2.2.2 == a23.2.2.2) && true))))) (
some (.inr (.inl ()))) (
some (.inl (IntKind.wrap .i64 (z20 + 1))))) (
some (.inr (.inr ())))
noncomputable def F18_2 (k : Nat) (x1 : (List (ByteArray × Bool × ByteArray × Int))) (x2 : (List (ByteArray × Bool × ByteArray × Int))) : Option Bool :=
cond ((x1.length : Int) != (x2.length : Int)) (
some false) (
(loopN (L18_2_14 k x1 x2) k 0).bind fun y24 => 
sel (fun y25 =>
some false) (fun y26 =>
some true) y24)
def A18_2 : CTpl := ⟨[.fz .u (.str (.bool (.str (.int .u32 .nil)))), .sl .u 1000000], [(1000000, .ar 38 (.str (.bool (.str (.int .u32 .nil)))))]⟩
def h18_2 : List HTy := [.tl (.str (.bool (.str (.int .u32 .nil)))), .tl (.str (.bool (.str (.int .u32 .nil))))]
def R18_2 : List RTpl := [⟨.b, [], [.tb]⟩]
def n18_2 : An := .sq (.nd) (.sq (.nd) (.sq (.sq (.nd) (.lp [0, 1] [] ⟨[(5, .i .i64)], []⟩ [.ti] [(1, ⟨[(4, .lb false)], []⟩), (2, ⟨[], []⟩)] [[], []] (.sq (.nd) (.sq (.sq (.mk [] [0, 0, 3, 7, 0, 0, 48, 112, 255]) (.nd)) (.nd))))) (.nd)))
theorem e18_2 (k : Nat) (y : Tup h18_2) : exec (P := Tryd.prog) D (lk rowsL) [] k (bodyOf Tryd.f18) n18_2 (fnE Tryd.f18 A18_2 [1000000] (inOf A18_2 (ofTup h18_2 y))) (fnSt [1000000] (inOf A18_2 (ofTup h18_2 y))) (leafR D (fnE Tryd.f18 A18_2 [1000000] (inOf A18_2 (ofTup h18_2 y))) Tryd.f18.results.toList (R18_2.map (·.h)) R18_2) = F18_2 k y.1 y.2 := by kernel_rfl
noncomputable def C18_2 (k : Nat) : Con Tryd.prog := ⟨18, Tryd.f18, Tryd.func18, by kernel_rfl, by kernel_rfl, A18_2, h18_2, [1000000], R18_2, fun y => F18_2 k y.1 y.2, fun y r h => con_ok good mixed (c := bodyOf Tryd.f18) Tryd.func18 (by kernel_rfl) n18_2 y ((e18_2 k y).trans h)⟩
noncomputable def L18_3_14 (k : Nat) (x1 : (List (ByteArray × Bool × ByteArray × Int))) (x2 : (List (ByteArray × Bool × ByteArray × Int))) (z15 : Int) : Option (Int ⊕ (Unit ⊕ Unit)) :=
cond (decide (z15 < (x1.length : Int))) (
(ix x1 z15).bind fun a16 =>
(ix x2 z15).bind fun a17 =>
cond (!((a16.1.toList == a17.1.toList) && ((a16.2.1 == a17.2.1) && ((a16.2.2.1.toList == a17.2.2.1.toList) && ((a16.2.2.2 == a17.2.2.2) && true))))) (
some (.inr (.inl ()))) (
some (.inl (IntKind.wrap .i64 (z15 + 1))))) (
some (.inr (.inr ())))
noncomputable def F18_3 (k : Nat) (x1 : (List (ByteArray × Bool × ByteArray × Int))) (x2 : (List (ByteArray × Bool × ByteArray × Int))) : Option Bool :=
cond ((x1.length : Int) != (x2.length : Int)) (
some false) (
(loopN (L18_3_14 k x1 x2) k 0).bind fun y18 => 
sel (fun y19 =>
some false) (fun y20 =>
some true) y18)
def A18_3 : CTpl := ⟨[.fz .u (.str (.bool (.str (.int .u32 .nil)))), .fz .u (.str (.bool (.str (.int .u32 .nil))))], []⟩
def h18_3 : List HTy := [.tl (.str (.bool (.str (.int .u32 .nil)))), .tl (.str (.bool (.str (.int .u32 .nil))))]
def R18_3 : List RTpl := [⟨.b, [], [.tb]⟩]
def n18_3 : An := .sq (.nd) (.sq (.nd) (.sq (.sq (.nd) (.lp [0, 1] [] ⟨[(5, .i .i64)], []⟩ [.ti] [(1, ⟨[(4, .lb false)], []⟩), (2, ⟨[], []⟩)] [[], []] (.sq (.nd) (.sq (.sq (.mk [] [0, 0, 3, 7, 0, 0, 48, 112, 255]) (.nd)) (.nd))))) (.nd)))
theorem e18_3 (k : Nat) (y : Tup h18_3) : exec (P := Tryd.prog) D (lk rowsL) [] k (bodyOf Tryd.f18) n18_3 (fnE Tryd.f18 A18_3 [] (inOf A18_3 (ofTup h18_3 y))) (fnSt [] (inOf A18_3 (ofTup h18_3 y))) (leafR D (fnE Tryd.f18 A18_3 [] (inOf A18_3 (ofTup h18_3 y))) Tryd.f18.results.toList (R18_3.map (·.h)) R18_3) = F18_3 k y.1 y.2 := by kernel_rfl
noncomputable def C18_3 (k : Nat) : Con Tryd.prog := ⟨18, Tryd.f18, Tryd.func18, by kernel_rfl, by kernel_rfl, A18_3, h18_3, [], R18_3, fun y => F18_3 k y.1 y.2, fun y r h => con_ok good mixed (c := bodyOf Tryd.f18) Tryd.func18 (by kernel_rfl) n18_3 y ((e18_3 k y).trans h)⟩
noncomputable def L5_16 (k : Nat) (x1 : (List (Int × Int × (List (Int × Bool × ByteArray)) × (List (ByteArray × Bool × ByteArray)) × (List ByteArray) × Bool))) (x2 : (List Int)) (z145 : (Int × (List (ByteArray × (ByteArray × Bool × ByteArray × Int))) × (List (ByteArray × (ByteArray × Bool × ByteArray × Int))) × (List (ByteArray × (ByteArray × Bool × ByteArray × Int))))) : Option ((Int × (List (ByteArray × (ByteArray × Bool × ByteArray × Int))) × (List (ByteArray × (ByteArray × Bool × ByteArray × Int))) × (List (ByteArray × (ByteArray × Bool × ByteArray × Int)))) ⊕ ((List (ByteArray × (ByteArray × Bool × ByteArray × Int))) × (List (ByteArray × (ByteArray × Bool × ByteArray × Int))) × (List (ByteArray × (ByteArray × Bool × ByteArray × Int))))) :=
((cond (decide (z145.1 < (x1.length : Int))) (
some (decide (z145.1 < 20))) (
some false) : Option Bool)).bind fun y146 => 
cond y146 (
(ix x1 z145.1).bind fun a147 =>
(ix x1 z145.1).bind fun a148 =>
(F20 k a148.1 a148.2.1 a148.2.2.1 a148.2.2.2.1 a148.2.2.2.2.1 a148.2.2.2.2.2).bind fun y149 => 
(F8_1 k a147.2.1 y149 z145.2.1).bind fun y150 => 
(ix x1 z145.1).bind fun a151 =>
(F9 k ([] : List (Int × Bool × ByteArray)) 1).bind fun y152 => 
(F8_1 k (IntKind.wrap .u32 (a151.2.1.tdiv 2)) y152 z145.2.2.2).bind fun y153 => 
(F12 k x2 5).bind fun y154 => 
(F13 k y154 y153).bind fun y155 => 
(ix x1 z145.1).bind fun a156 =>
(ix x1 z145.1).bind fun a157 =>
(F20 k a157.1 a157.2.1 a157.2.2.1 a157.2.2.2.1 a157.2.2.2.2.1 a157.2.2.2.2.2).bind fun y158 => 
(F8_1 k a156.2.1 y158 z145.2.2.1).bind fun y159 => 
some (.inl ((IntKind.wrap .i64 (z145.1 + 1)), y150, y159, y155))) (
some (.inr (z145.2.1, z145.2.2.1, z145.2.2.2)))
noncomputable def F5 (k : Nat) (x1 : (List (Int × Int × (List (Int × Bool × ByteArray)) × (List (ByteArray × Bool × ByteArray)) × (List ByteArray) × Bool))) (x2 : (List Int)) : Option Bool :=
(F6 k).bind fun y4 => 
(F6 k).bind fun y5 => 
(F6 k).bind fun y6 => 
(((F7 k).bind fun y10 => 
cond (!y10) (
some true) (
some false) : Option Bool)).bind fun y11 => 
cond y11 (
some false) (
(loopN (L5_16 k x1 x2) k (0, y4, y5, y6)).bind fun y160 => 
(F23 k y160.1).bind fun y163 => 
(F23 k y160.2.1).bind fun y164 => 
(F22 k y163.1 y164.1).bind fun y165 => 
cond y165 (
(F11 k y163.1 y163.2).bind fun y166 => 
(F11 k y163.1 y164.2).bind fun y167 => 
(F18_3 k y166 y167).bind fun y168 => 
cond y168 (
(F25 k y163.1).bind fun y169 => 
(F22 k y169 y163.1).bind fun y170 => 
some y170) (
some false)) (
some false))
def A5 : CTpl := ⟨[.fz .u (.int .i64 (.int .u32 (.sl (.int .i64 (.bool (.str .nil))) (.sl (.str (.bool (.str .nil))) (.sl (.str .nil) (.bool .nil)))))), .fz .u (.int .i64 .nil)], []⟩
def h5 : List HTy := [.tl (.int .i64 (.int .u32 (.sl (.int .i64 (.bool (.str .nil))) (.sl (.str (.bool (.str .nil))) (.sl (.str .nil) (.bool .nil)))))), .tl (.int .i64 .nil)]
def R5 : List RTpl := [⟨.b, [], [.tb]⟩]
def n5 : An := .sq (.nd) (.sq (.nd) (.sq (.jn [0, 1, 5, 6, 7] [401100, 401101, 401200, 401201, 401300, 401301] [(0, ⟨[(27, .b)], []⟩)] [[.tb]] (.nd) (.nd)) (.sq (.sq (.nd) (.lp [0, 1, 5, 6, 7] [] ⟨[(8, .i .i64)], [(401100, .bx 60 [.mp 401101]), (401200, .bx 60 [.mp 401201]), (401300, .bx 60 [.mp 401301]), (401101, .mp ⟨.s, true, (.str (.bool (.str (.int .u32 .nil))))⟩), (401201, .mp ⟨.s, true, (.str (.bool (.str (.int .u32 .nil))))⟩), (401301, .mp ⟨.s, true, (.str (.bool (.str (.int .u32 .nil))))⟩)]⟩ [.ti, .tm ⟨.s, true, (.str (.bool (.str (.int .u32 .nil))))⟩, .tm ⟨.s, true, (.str (.bool (.str (.int .u32 .nil))))⟩, .tm ⟨.s, true, (.str (.bool (.str (.int .u32 .nil))))⟩] [(2, ⟨[], [(401100, .bx 60 [.mp 401101]), (401200, .bx 60 [.mp 401201]), (401300, .bx 60 [.mp 401301]), (401101, .mp ⟨.s, true, (.str (.bool (.str (.int .u32 .nil))))⟩), (401201, .mp ⟨.s, true, (.str (.bool (.str (.int .u32 .nil))))⟩), (401301, .mp ⟨.s, true, (.str (.bool (.str (.int .u32 .nil))))⟩)]⟩)] [[.tm ⟨.s, true, (.str (.bool (.str (.int .u32 .nil))))⟩, .tm ⟨.s, true, (.str (.bool (.str (.int .u32 .nil))))⟩, .tm ⟨.s, true, (.str (.bool (.str (.int .u32 .nil))))⟩]] (.sq (.jn [8] [401100, 401101, 401200, 401201, 401300, 401301] [(0, ⟨[(35, .b)], []⟩)] [[.tb]] (.nd) (.nd)) (.sq (.sq (.mk [] [0, 0, 0, 6, 14, 30, 0, 0, 192, 448, 960, 2047]) (.sq (.mk [] [0, 0, 0, 6, 14, 30, 62, 0, 255]) (.sq (.fr [(3, 406100)]) (.mk [] [0, 0, 0, 6, 14, 30, 0, 0, 192, 448, 960, 2047])))) (.nd))))) (.sq (.nd) (.sq (.fr [(10, 408500), (10, 408800), (16, 409300)]) (.nd))))))
theorem e5 (k : Nat) (y : Tup h5) : exec (P := Tryd.prog) D (lk rowsL) [C6 k, C7 k, C20 k, C8_1 k, C9 k, C12 k, C13 k, C23 k, C22 k, C11 k, C18_3 k, C25 k] k (bodyOf Tryd.f5) n5 (fnE Tryd.f5 A5 [] (inOf A5 (ofTup h5 y))) (fnSt [] (inOf A5 (ofTup h5 y))) (leafR D (fnE Tryd.f5 A5 [] (inOf A5 (ofTup h5 y))) Tryd.f5.results.toList (R5.map (·.h)) R5) = F5 k y.1 y.2 := by kernel_rfl
noncomputable def C5 (k : Nat) : Con Tryd.prog := ⟨5, Tryd.f5, Tryd.func5, by kernel_rfl, by kernel_rfl, A5, h5, [], R5, fun y => F5 k y.1 y.2, fun y r h => con_ok good mixed (c := bodyOf Tryd.f5) Tryd.func5 (by kernel_rfl) n5 y ((e5 k y).trans h)⟩
end Go.Proofs.YtfdglmgblmoakaaDoor.N

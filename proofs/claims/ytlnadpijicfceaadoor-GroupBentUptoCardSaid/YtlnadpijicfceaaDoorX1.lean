/- What the functions compute, natively, and that they do. Printed by a program (wip/xg). -/
import Derived.Test.YtlnadpijicfceaaDoorMc4
import Derived.Test.YtlnadpijicfceaaDoorProg
import Derived.Test.YtlnadpijicfceaaDoorShelf
import Derived.Test.YtlnadpijicfceaaDoorBld
namespace Go.Proofs.YtlnadpijicfceaaDoor.N
open Go Go.RowKit Go.Proofs.YtlnadpijicfceaaDoor.Mc Go.Proofs
set_option maxRecDepth 100000
set_option maxHeartbeats 0
set_option linter.unusedVariables false
noncomputable abbrev D := decOf Tryd.prog
theorem good : Go.Proofs.YtlnadpijicfceaaDoor.Mc.Good Tryd.prog D := good_of _
theorem mixed : Tryd.prog.follows .mixedOrders = true := by kernel_rfl
def rowsL : List (Nat × Row) := [(25, (.str (.bool (.str .nil)))), (31, (.int .i64 (.int .u32 (.int .u32 (.str .nil))))), (52, (.int .u8 .nil)), (93, (.str .nil)), (117, (.int .i64 .nil)), (126, (.int .i32 .nil))]
variable [Mo]
noncomputable def F21 (k : Nat) (x1 : Int) (x2 : Int) : Option Int :=
grd (x2 != 0) <|
((cond (decide ((x1.tmod x2) < 0)) (
some (IntKind.wrap .i64 ((x1.tmod x2) + x2))) (
some (x1.tmod x2)) : Option Int)).bind fun y1 => 
some y1
def A21 : CTpl := ⟨[.i .i64, .i .i64], []⟩
def h21 : List HTy := [.ti, .ti]
def R21 : List RTpl := [⟨.i .i64, [], [.ti]⟩]
def n21 : An := .sq (.nd) (.sq (.nd) (.jn [] [] [(0, ⟨[(0, .i .i64)], []⟩)] [[.ti]] (.nd) (.nd)))
theorem e21 (k : Nat) (y : Tup h21) : exec (P := Tryd.prog) D (lk rowsL) [] k (bodyOf Tryd.f21) n21 (fnE Tryd.f21 A21 [] (inOf A21 (ofTup h21 y))) (fnSt [] (inOf A21 (ofTup h21 y))) (leafR D (fnE Tryd.f21 A21 [] (inOf A21 (ofTup h21 y))) Tryd.f21.results.toList (R21.map (·.h)) R21) = F21 k y.1 y.2 := by kernel_rfl
noncomputable def C21 (k : Nat) : Con Tryd.prog := ⟨21, Tryd.f21, Tryd.func21, by kernel_rfl, by kernel_rfl, A21, h21, [], R21, fun y => F21 k y.1 y.2, fun y r h => con_ok good mixed (c := bodyOf Tryd.f21) Tryd.func21 (by kernel_rfl) n21 y ((e21 k y).trans h)⟩
noncomputable def F10 (k : Nat) (x1 : Int) (x2 : Int) (x3 : Int) : Option (Int × Int × Int) :=
(F21 k x1 33).bind fun y1 => 
(F21 k x2 4).bind fun y2 => 
(F21 k x3 4).bind fun y3 => 
some ((IntKind.wrap .i64 (32 + y1)), (IntKind.wrap .i64 (3 + y2)), (IntKind.wrap .i64 (4 + y3)))
def A10 : CTpl := ⟨[.ag [.i .i64, .i .i64, .i .i64]], []⟩
def h10 : List HTy := [.ti, .ti, .ti]
def R10 : List RTpl := [⟨.ag [.i .i64, .i .i64, .i .i64], [], [.ti, .ti, .ti]⟩]
def n10 : An := .sq (.nd) (.sq (.mk [] [0, 1, 3, 7, 0, 16, 55, 119, 0, 256, 887, 1911, 4095, 8191]) (.nd))
theorem e10 (k : Nat) (y : Tup h10) : exec (P := Tryd.prog) D (lk rowsL) [C21 k] k (bodyOf Tryd.f10) n10 (fnE Tryd.f10 A10 [] (inOf A10 (ofTup h10 y))) (fnSt [] (inOf A10 (ofTup h10 y))) (leafR D (fnE Tryd.f10 A10 [] (inOf A10 (ofTup h10 y))) Tryd.f10.results.toList (R10.map (·.h)) R10) = F10 k y.1 y.2.1 y.2.2 := by kernel_rfl
noncomputable def C10 (k : Nat) : Con Tryd.prog := ⟨10, Tryd.f10, Tryd.func10, by kernel_rfl, by kernel_rfl, A10, h10, [], R10, fun y => F10 k y.1 y.2.1 y.2.2, fun y r h => con_ok good mixed (c := bodyOf Tryd.f10) Tryd.func10 (by kernel_rfl) n10 y ((e10 k y).trans h)⟩
noncomputable def F26 (k : Nat) (x1 : ByteArray) (x2 : Int) : Option ByteArray :=
grd (bnds (x1.size : Int) 0 (mn (x1.size : Int) x2)) <|
some (x1.extract 0 ((mn (x1.size : Int) x2).toNat))
def A26 : CTpl := ⟨[.s, .i .i64], []⟩
def h26 : List HTy := [.ts, .ti]
def R26 : List RTpl := [⟨.s, [], [.ts]⟩]
def n26 : An := .nd
theorem e26 (k : Nat) (y : Tup h26) : exec (P := Tryd.prog) D (lk rowsL) [] k (bodyOf Tryd.f26) n26 (fnE Tryd.f26 A26 [] (inOf A26 (ofTup h26 y))) (fnSt [] (inOf A26 (ofTup h26 y))) (leafR D (fnE Tryd.f26 A26 [] (inOf A26 (ofTup h26 y))) Tryd.f26.results.toList (R26.map (·.h)) R26) = F26 k y.1 y.2 := by kernel_rfl
noncomputable def C26 (k : Nat) : Con Tryd.prog := ⟨26, Tryd.f26, Tryd.func26, by kernel_rfl, by kernel_rfl, A26, h26, [], R26, fun y => F26 k y.1 y.2, fun y r h => con_ok good mixed (c := bodyOf Tryd.f26) Tryd.func26 (by kernel_rfl) n26 y ((e26 k y).trans h)⟩
noncomputable def L11_8 (k : Nat) (x1 : (List (ByteArray × Bool × ByteArray))) (x2 : Int) (z33 : (Int × (List (ByteArray × Bool × ByteArray)))) : Option ((Int × (List (ByteArray × Bool × ByteArray))) ⊕ (List (ByteArray × Bool × ByteArray))) :=
((cond (decide (z33.1 < (x1.length : Int))) (
some (decide (z33.1 < x2))) (
some false) : Option Bool)).bind fun y34 => 
cond y34 (
(ix x1 z33.1).bind fun a35 =>
(F26 k a35.1 60).bind fun y36 => 
(ix x1 z33.1).bind fun a37 =>
(ix x1 z33.1).bind fun a38 =>
(F26 k a38.2.2 60).bind fun y39 => 
grd (decide ((z33.2.length + [(y36, a37.2.1, y39)].length) * 40 ≤ 140737488355328)) <|
some (.inl ((IntKind.wrap .i64 (z33.1 + 1)), (z33.2 ++ [(y36, a37.2.1, y39)])))) (
some (.inr z33.2))
noncomputable def F11 (k : Nat) (x1 : (List (ByteArray × Bool × ByteArray))) (x2 : Int) : Option (List (ByteArray × Bool × ByteArray)) :=
(loopN (L11_8 k x1 x2) k (0, ([] : List (ByteArray × Bool × ByteArray)))).bind fun y40 => 
some y40
def A11 : CTpl := ⟨[.fz .u (.str (.bool (.str .nil))), .i .i64], []⟩
def h11 : List HTy := [.tl (.str (.bool (.str .nil))), .ti]
def R11 : List RTpl := [⟨.sl .u 500000, [(500000, .ar 57 (.str (.bool (.str .nil))))], [.tl (.str (.bool (.str .nil)))]⟩]
def n11 : An := .sq (.nd) (.sq (.nd) (.sq (.sq (.nd) (.lp [0, 1] [] ⟨[(5, .sl .n 300400), (6, .i .i64)], [(300400, .ar 57 (.str (.bool (.str .nil))))]⟩ [.ti, .tl (.str (.bool (.str .nil)))] [(2, ⟨[(5, .sl .n 300425)], [(300425, .ar 57 (.str (.bool (.str .nil))))]⟩)] [[.tl (.str (.bool (.str .nil)))]] (.sq (.jn [5, 6] [300400] [(0, ⟨[(15, .b)], []⟩)] [[.tb]] (.nd) (.nd)) (.sq (.mk [] [0, 0, 0, 6, 14, 30, 62, 0, 0, 384, 896, 1920, 0, 0, 12288, 28672, 61440, 127102, 262142, 524286, 1048575, 2097151]) (.nd))))) (.nd)))
theorem e11 (k : Nat) (y : Tup h11) : exec (P := Tryd.prog) D (lk rowsL) [C26 k] k (bodyOf Tryd.f11) n11 (fnE Tryd.f11 A11 [] (inOf A11 (ofTup h11 y))) (fnSt [] (inOf A11 (ofTup h11 y))) (leafR D (fnE Tryd.f11 A11 [] (inOf A11 (ofTup h11 y))) Tryd.f11.results.toList (R11.map (·.h)) R11) = F11 k y.1 y.2 := by kernel_rfl
noncomputable def C11 (k : Nat) : Con Tryd.prog := ⟨11, Tryd.f11, Tryd.func11, by kernel_rfl, by kernel_rfl, A11, h11, [], R11, fun y => F11 k y.1 y.2, fun y r h => con_ok good mixed (c := bodyOf Tryd.f11) Tryd.func11 (by kernel_rfl) n11 y ((e11 k y).trans h)⟩
noncomputable def F86 (k : Nat) (x1 : ByteArray) (x2 : Int) (x3 : Int) (x4 : Int) : Option Bool :=
cond (decide (x2 < (x1.size : Int))) (
grd (decide (0 ≤ x2 ∧ x2 < (x1.size : Int))) <|
cond (decide (x3 ≤ (bt x1 x2))) (
grd (decide (0 ≤ x2 ∧ x2 < (x1.size : Int))) <|
some (decide ((bt x1 x2) ≤ x4))) (
some false)) (
some false)
def A86 : CTpl := ⟨[.s, .i .i64, .i .u8, .i .u8], []⟩
def h86 : List HTy := [.ts, .ti, .ti, .ti]
def R86 : List RTpl := [⟨.b, [], [.tb]⟩]
def n86 : An := .nd
theorem e86 (k : Nat) (y : Tup h86) : exec (P := Tryd.prog) D (lk rowsL) [] k (bodyOf Tryd.f86) n86 (fnE Tryd.f86 A86 [] (inOf A86 (ofTup h86 y))) (fnSt [] (inOf A86 (ofTup h86 y))) (leafR D (fnE Tryd.f86 A86 [] (inOf A86 (ofTup h86 y))) Tryd.f86.results.toList (R86.map (·.h)) R86) = F86 k y.1 y.2.1 y.2.2.1 y.2.2.2 := by kernel_rfl
noncomputable def C86 (k : Nat) : Con Tryd.prog := ⟨86, Tryd.f86, Tryd.func86, by kernel_rfl, by kernel_rfl, A86, h86, [], R86, fun y => F86 k y.1 y.2.1 y.2.2.1 y.2.2.2, fun y r h => con_ok good mixed (c := bodyOf Tryd.f86) Tryd.func86 (by kernel_rfl) n86 y ((e86 k y).trans h)⟩
noncomputable def F81 (k : Nat) (x1 : ByteArray) (x2 : Int) : Option (Int × Int) :=
grd (decide (0 ≤ x2 ∧ x2 < (x1.size : Int))) <|
cond (decide ((bt x1 x2) < 128)) (
some ((IntKind.wrap .i64 (bt x1 x2)), 1)) (
((cond (decide (194 ≤ (bt x1 x2))) (
cond (decide ((bt x1 x2) ≤ 223)) (
(F86 k x1 (IntKind.wrap .i64 (x2 + 1)) 128 191).bind fun y4 => 
some y4) (
some false)) (
some false) : Option Bool)).bind fun y5 => 
cond y5 (
grd (decide (0 ≤ (IntKind.wrap .i64 (x2 + 1)) ∧ (IntKind.wrap .i64 (x2 + 1)) < (x1.size : Int))) <|
some ((IntKind.wrap .i64 ((IntKind.wrap .i64 ((IntKind.wrap .i64 (bits .and .u8 (bt x1 x2) 31)) * 64)) + (IntKind.wrap .i64 (bits .and .u8 (bt x1 (IntKind.wrap .i64 (x2 + 1))) 63)))), 2)) (
((cond ((bt x1 x2) == 224) (
some (160, 191)) (
cond ((bt x1 x2) == 237) (
some (128, 159)) (
cond ((bt x1 x2) == 240) (
some (144, 191)) (
cond ((bt x1 x2) == 244) (
some (128, 143)) (
some (128, 191))))) : Option (Int × Int))).bind fun y6 => 
((cond (decide (224 ≤ (bt x1 x2))) (
cond (decide ((bt x1 x2) ≤ 239)) (
(F86 k x1 (IntKind.wrap .i64 (x2 + 1)) y6.1 y6.2).bind fun y12 => 
cond y12 (
(F86 k x1 (IntKind.wrap .i64 (x2 + 2)) 128 191).bind fun y13 => 
some y13) (
some false)) (
some false)) (
some false) : Option Bool)).bind fun y14 => 
cond y14 (
grd (decide (0 ≤ (IntKind.wrap .i64 (x2 + 1)) ∧ (IntKind.wrap .i64 (x2 + 1)) < (x1.size : Int))) <|
grd (decide (0 ≤ (IntKind.wrap .i64 (x2 + 2)) ∧ (IntKind.wrap .i64 (x2 + 2)) < (x1.size : Int))) <|
some ((IntKind.wrap .i64 ((IntKind.wrap .i64 ((IntKind.wrap .i64 ((IntKind.wrap .i64 (bits .and .u8 (bt x1 x2) 15)) * 4096)) + (IntKind.wrap .i64 ((IntKind.wrap .i64 (bits .and .u8 (bt x1 (IntKind.wrap .i64 (x2 + 1))) 63)) * 64)))) + (IntKind.wrap .i64 (bits .and .u8 (bt x1 (IntKind.wrap .i64 (x2 + 2))) 63)))), 3)) (
((cond (decide (240 ≤ (bt x1 x2))) (
cond (decide ((bt x1 x2) ≤ 244)) (
(F86 k x1 (IntKind.wrap .i64 (x2 + 1)) y6.1 y6.2).bind fun y22 => 
cond y22 (
(F86 k x1 (IntKind.wrap .i64 (x2 + 2)) 128 191).bind fun y23 => 
cond y23 (
(F86 k x1 (IntKind.wrap .i64 (x2 + 3)) 128 191).bind fun y24 => 
some y24) (
some false)) (
some false)) (
some false)) (
some false) : Option Bool)).bind fun y25 => 
cond y25 (
grd (decide (0 ≤ (IntKind.wrap .i64 (x2 + 1)) ∧ (IntKind.wrap .i64 (x2 + 1)) < (x1.size : Int))) <|
grd (decide (0 ≤ (IntKind.wrap .i64 (x2 + 2)) ∧ (IntKind.wrap .i64 (x2 + 2)) < (x1.size : Int))) <|
grd (decide (0 ≤ (IntKind.wrap .i64 (x2 + 3)) ∧ (IntKind.wrap .i64 (x2 + 3)) < (x1.size : Int))) <|
some ((IntKind.wrap .i64 ((IntKind.wrap .i64 ((IntKind.wrap .i64 ((IntKind.wrap .i64 ((IntKind.wrap .i64 (bits .and .u8 (bt x1 x2) 7)) * 262144)) + (IntKind.wrap .i64 ((IntKind.wrap .i64 (bits .and .u8 (bt x1 (IntKind.wrap .i64 (x2 + 1))) 63)) * 4096)))) + (IntKind.wrap .i64 ((IntKind.wrap .i64 (bits .and .u8 (bt x1 (IntKind.wrap .i64 (x2 + 2))) 63)) * 64)))) + (IntKind.wrap .i64 (bits .and .u8 (bt x1 (IntKind.wrap .i64 (x2 + 3))) 63)))), 4)) (
some (65533, 1)))))
def A81 : CTpl := ⟨[.s, .i .i64], []⟩
def h81 : List HTy := [.ts, .ti]
def R81 : List RTpl := [⟨.tp [.i .i64, .i .i64], [], [.ti, .ti]⟩]
def n81 : An := .sq (.nd) (.sq (.nd) (.sq (.sq (.nd) (.sq (.nd) (.jn [0, 1, 6] [] [(0, ⟨[(17, .b)], []⟩)] [[.tb]] (.nd) (.nd)))) (.sq (.nd) (.jn [0, 1, 6] [] [(0, ⟨[(7, .i .u8), (8, .i .u8)], []⟩)] [[.ti, .ti]] (.nd) (.sq (.jn [0, 1, 6, 7, 8] [] [(0, ⟨[(69, .b)], []⟩)] [[.tb]] (.nd) (.sq (.sq (.mk [] [0, 1, 3, 7, 0, 0, 32, 112, 240, 496, 1008, 2047, 0, 0, 8192, 28672, 61440, 126976, 262143, 524287, 1048575]) (.nd)) (.nd))) (.sq (.jn [0, 1, 6] [] [(0, ⟨[(114, .b)], []⟩)] [[.tb]] (.nd) (.sq (.sq (.mk [] [0, 1, 3, 7, 0, 0, 32, 112, 240, 496, 1008, 2047, 0, 0, 8192, 28672, 61440, 126976, 258048, 524287, 0, 0, 2097152, 7340032, 15728640, 32505856, 67108863, 134217727, 268435455]) (.nd)) (.nd))) (.nd)))))))
theorem e81 (k : Nat) (y : Tup h81) : exec (P := Tryd.prog) D (lk rowsL) [C86 k] k (bodyOf Tryd.f81) n81 (fnE Tryd.f81 A81 [] (inOf A81 (ofTup h81 y))) (fnSt [] (inOf A81 (ofTup h81 y))) (leafR D (fnE Tryd.f81 A81 [] (inOf A81 (ofTup h81 y))) Tryd.f81.results.toList (R81.map (·.h)) R81) = F81 k y.1 y.2 := by kernel_rfl
noncomputable def C81 (k : Nat) : Con Tryd.prog := ⟨81, Tryd.f81, Tryd.func81, by kernel_rfl, by kernel_rfl, A81, h81, [], R81, fun y => F81 k y.1 y.2, fun y r h => con_ok good mixed (c := bodyOf Tryd.f81) Tryd.func81 (by kernel_rfl) n81 y ((e81 k y).trans h)⟩
noncomputable def L76_8 (k : Nat) (x1 : ByteArray) (z8 : (Int × (List Int) × (List Int))) : Option ((Int × (List Int) × (List Int)) ⊕ ((List Int) × (List Int))) :=
cond (decide (z8.1 < (x1.size : Int))) (
(F81 k x1 z8.1).bind fun y9 => 
grd (decide ((z8.2.1.length + [y9.1].length) * 8 ≤ 140737488355328)) <|
grd (decide ((z8.2.2.length + [y9.2].length) * 8 ≤ 140737488355328)) <|
some (.inl ((IntKind.wrap .i64 (z8.1 + y9.2)), (z8.2.1 ++ [y9.1]), (z8.2.2 ++ [y9.2])))) (
some (.inr (z8.2.1, z8.2.2)))
noncomputable def F76 (k : Nat) (x1 : ByteArray) : Option ((List Int) × (List Int)) :=
(loopN (L76_8 k x1) k (0, ([] : List Int), ([] : List Int))).bind fun y10 => 
some (y10.1, y10.2)
def A76 : CTpl := ⟨[.s], []⟩
def h76 : List HTy := [.ts]
def R76 : List RTpl := [⟨.tp [.sl .u 500000, .sl .u 500001], [(500000, .ar 3 (.int .i64 .nil)), (500001, .ar 3 (.int .i64 .nil))], [.tl (.int .i64 .nil), .tl (.int .i64 .nil)]⟩]
def n76 : An := .sq (.nd) (.sq (.nd) (.sq (.sq (.nd) (.lp [0] [] ⟨[(4, .sl .n 300400), (5, .sl .n 300401), (6, .i .i64)], [(300400, .ar 3 (.int .i64 .nil)), (300401, .ar 3 (.int .i64 .nil))]⟩ [.ti, .tl (.int .i64 .nil), .tl (.int .i64 .nil)] [(2, ⟨[(4, .sl .n 300425), (5, .sl .n 300426)], [(300425, .ar 3 (.int .i64 .nil)), (300426, .ar 3 (.int .i64 .nil))]⟩)] [[.tl (.int .i64 .nil), .tl (.int .i64 .nil)]] (.nd))) (.nd)))
theorem e76 (k : Nat) (y : Tup h76) : exec (P := Tryd.prog) D (lk rowsL) [C81 k] k (bodyOf Tryd.f76) n76 (fnE Tryd.f76 A76 [] (inOf A76 (ofTup h76 y))) (fnSt [] (inOf A76 (ofTup h76 y))) (leafR D (fnE Tryd.f76 A76 [] (inOf A76 (ofTup h76 y))) Tryd.f76.results.toList (R76.map (·.h)) R76) = F76 k y := by kernel_rfl
noncomputable def C76 (k : Nat) : Con Tryd.prog := ⟨76, Tryd.f76, Tryd.func76, by kernel_rfl, by kernel_rfl, A76, h76, [], R76, fun y => F76 k y, fun y r h => con_ok good mixed (c := bodyOf Tryd.f76) Tryd.func76 (by kernel_rfl) n76 y ((e76 k y).trans h)⟩
noncomputable def L82_10 (k : Nat) (y2 : ((List Int) × (List Int))) (y4 : ((List Int) × (List Int))) (z40 : Int) : Option (Int ⊕ Int) :=
((cond (decide (z40 < (y2.1.length : Int))) (
cond (decide (z40 < (y4.1.length : Int))) (
(ix y2.1 z40).bind fun a41 =>
(y2.1[z40.toNat]?).bind fun a42 =>
(ix y4.1 z40).bind fun a43 =>
(y4.1[z40.toNat]?).bind fun a44 =>
some (a42 == a44)) (
some false)) (
some false) : Option Bool)).bind fun y45 => 
cond y45 (
some (.inl (IntKind.wrap .i64 (z40 + 1)))) (
some (.inr z40))
noncomputable def F82 (k : Nat) (x1 : ByteArray) (x2 : ByteArray) : Option Int :=
(F76 k x1).bind fun y2 => 
(F76 k x2).bind fun y4 => 
(loopN (L82_10 k y2 y4) k 0).bind fun y46 => 
some y46
def A82 : CTpl := ⟨[.s, .s], []⟩
def h82 : List HTy := [.ts, .ts]
def R82 : List RTpl := [⟨.i .i64, [], [.ti]⟩]
def n82 : An := .sq (.nd) (.sq (.nd) (.sq (.nd) (.sq (.nd) (.sq (.lp [5, 7] [401200, 401700] ⟨[(9, .i .i64)], []⟩ [.ti] [(2, ⟨[(9, .i .i64)], []⟩)] [[.ti]] (.sq (.jn [9] [] [(0, ⟨[(40, .b)], []⟩)] [[.tb]] (.mk [] [0, 0, 2, 7, 15, 31, 31, 95, 255, 511, 1023, 2047, 2047, 8191, 16383, 2047, 2047, 100351, 231423, 524287, 1048575]) (.nd)) (.nd))) (.nd)))))
theorem e82 (k : Nat) (y : Tup h82) : exec (P := Tryd.prog) D (lk rowsL) [C76 k] k (bodyOf Tryd.f82) n82 (fnE Tryd.f82 A82 [] (inOf A82 (ofTup h82 y))) (fnSt [] (inOf A82 (ofTup h82 y))) (leafR D (fnE Tryd.f82 A82 [] (inOf A82 (ofTup h82 y))) Tryd.f82.results.toList (R82.map (·.h)) R82) = F82 k y.1 y.2 := by kernel_rfl
noncomputable def C82 (k : Nat) : Con Tryd.prog := ⟨82, Tryd.f82, Tryd.func82, by kernel_rfl, by kernel_rfl, A82, h82, [], R82, fun y => F82 k y.1 y.2, fun y r h => con_ok good mixed (c := bodyOf Tryd.f82) Tryd.func82 (by kernel_rfl) n82 y ((e82 k y).trans h)⟩
noncomputable def F78 (k : Nat) (x1 : ByteArray) (x2 : ByteArray) : Option Int :=
(F76 k x1).bind fun y2 => 
(F76 k x2).bind fun y4 => 
(F82 k x1 x2).bind fun y6 => 
((cond (y6 == (y2.1.length : Int)) (
some (y6 == (y4.1.length : Int))) (
some false) : Option Bool)).bind fun y12 => 
cond y12 (
some 0) (
cond (y6 == (y2.1.length : Int)) (
some (-1)) (
cond (y6 == (y4.1.length : Int)) (
some 1) (
(ix y2.1 y6).bind fun a13 =>
(y2.1[y6.toNat]?).bind fun a14 =>
(ix y4.1 y6).bind fun a15 =>
(y4.1[y6.toNat]?).bind fun a16 =>
cond (decide (a14 < a16)) (
some (-1)) (
some 1))))
def A78 : CTpl := ⟨[.s, .s], []⟩
def h78 : List HTy := [.ts, .ts]
def R78 : List RTpl := [⟨.i .i64, [], [.ti]⟩]
def n78 : An := .sq (.nd) (.sq (.nd) (.sq (.nd) (.sq (.nd) (.sq (.jn [5, 7, 9] [401200, 401700] [(0, ⟨[(23, .b)], []⟩)] [[.tb]] (.nd) (.sq (.nd) (.sq (.nd) (.sq (.nd) (.sq (.nd) (.sq (.nd) (.sq (.mk [] [0, 0, 3, 7, 0, 0, 48, 112, 255, 511]) (.nd)))))))) (.nd)))))
theorem e78 (k : Nat) (y : Tup h78) : exec (P := Tryd.prog) D (lk rowsL) [C76 k, C82 k] k (bodyOf Tryd.f78) n78 (fnE Tryd.f78 A78 [] (inOf A78 (ofTup h78 y))) (fnSt [] (inOf A78 (ofTup h78 y))) (leafR D (fnE Tryd.f78 A78 [] (inOf A78 (ofTup h78 y))) Tryd.f78.results.toList (R78.map (·.h)) R78) = F78 k y.1 y.2 := by kernel_rfl
noncomputable def C78 (k : Nat) : Con Tryd.prog := ⟨78, Tryd.f78, Tryd.func78, by kernel_rfl, by kernel_rfl, A78, h78, [], R78, fun y => F78 k y.1 y.2, fun y r h => con_ok good mixed (c := bodyOf Tryd.f78) Tryd.func78 (by kernel_rfl) n78 y ((e78 k y).trans h)⟩
noncomputable def F69 (k : Nat) (x1 : ByteArray) (x2 : ByteArray) : Option Bool :=
(F78 k x1 x2).bind fun y2 => 
cond (decide (y2 < 0)) (
some true) (
cond (y2 == 0) (
some (Op.bytesLess x1.toList x2.toList)) (
some false))
def A69 : CTpl := ⟨[.s, .s], []⟩
def h69 : List HTy := [.ts, .ts]
def R69 : List RTpl := [⟨.b, [], [.tb]⟩]
def n69 : An := .nd
theorem e69 (k : Nat) (y : Tup h69) : exec (P := Tryd.prog) D (lk rowsL) [C78 k] k (bodyOf Tryd.f69) n69 (fnE Tryd.f69 A69 [] (inOf A69 (ofTup h69 y))) (fnSt [] (inOf A69 (ofTup h69 y))) (leafR D (fnE Tryd.f69 A69 [] (inOf A69 (ofTup h69 y))) Tryd.f69.results.toList (R69.map (·.h)) R69) = F69 k y.1 y.2 := by kernel_rfl
noncomputable def C69 (k : Nat) : Con Tryd.prog := ⟨69, Tryd.f69, Tryd.func69, by kernel_rfl, by kernel_rfl, A69, h69, [], R69, fun y => F69 k y.1 y.2, fun y r h => con_ok good mixed (c := bodyOf Tryd.f69) Tryd.func69 (by kernel_rfl) n69 y ((e69 k y).trans h)⟩
noncomputable def L70_21 (k : Nat) (x1 : (List ByteArray)) (z115 : (Int × (List ByteArray))) (z116 : Int) : Option (Int ⊕ Int) :=
((cond (decide (z116 < (z115.2.length : Int))) (
(ix z115.2 z116).bind fun a117 =>
(z115.2[z116.toNat]?).bind fun a118 =>
(ix x1 z115.1).bind fun a119 =>
(F69 k a118 a119).bind fun y120 => 
some y120) (
some false) : Option Bool)).bind fun y121 => 
cond y121 (
some (.inl (IntKind.wrap .i64 (z116 + 1)))) (
some (.inr z116))
noncomputable def L70_8 (k : Nat) (x1 : (List ByteArray)) (z115 : (Int × (List ByteArray))) : Option ((Int × (List ByteArray)) ⊕ (List ByteArray)) :=
cond (decide (z115.1 < (x1.length : Int))) (
(((loopN (L70_21 k x1 z115) k 0).bind fun y122 => 
((cond (decide (y122 < (z115.2.length : Int))) (
(ix z115.2 y122).bind fun a123 =>
(z115.2[y122.toNat]?).bind fun a124 =>
(ix x1 z115.1).bind fun a125 =>
some (a124.toList == a125.toList)) (
some false) : Option Bool)).bind fun y126 => 
cond y126 (
some z115.2) (
grd (bnds (z115.2.length : Int) 0 y122) <|
grd (decide ((([] : List ByteArray).length + ((z115.2.drop 0).take (y122.toNat - 0)).length) * 16 ≤ 140737488355328)) <|
(ix x1 z115.1).bind fun a127 =>
grd (decide (((([] : List ByteArray) ++ ((z115.2.drop 0).take (y122.toNat - 0))).length + [a127].length) * 16 ≤ 140737488355328)) <|
grd (bnds (z115.2.length : Int) y122 (z115.2.length : Int)) <|
grd (decide ((((([] : List ByteArray) ++ ((z115.2.drop 0).take (y122.toNat - 0))) ++ [a127]).length + ((z115.2.drop y122.toNat).take (((z115.2.length : Int).toNat) - y122.toNat)).length) * 16 ≤ 140737488355328)) <|
some (((([] : List ByteArray) ++ ((z115.2.drop 0).take (y122.toNat - 0))) ++ [a127]) ++ ((z115.2.drop y122.toNat).take (((z115.2.length : Int).toNat) - y122.toNat)))) : Option (List ByteArray))).bind fun y128 => 
some (.inl ((IntKind.wrap .i64 (z115.1 + 1)), y128))) (
some (.inr z115.2))
noncomputable def F70 (k : Nat) (x1 : (List ByteArray)) : Option (List ByteArray) :=
(loopN (L70_8 k x1) k (0, ([] : List ByteArray))).bind fun y129 => 
some y129
def A70 : CTpl := ⟨[.fz .u (.str .nil)], []⟩
def h70 : List HTy := [.tl (.str .nil)]
def R70 : List RTpl := [⟨.sl .u 500000, [(500000, .ar 9 (.str .nil))], [.tl (.str .nil)]⟩]
def n70 : An := .sq (.nd) (.sq (.nd) (.sq (.sq (.nd) (.lp [0] [] ⟨[(3, .sl .n 300400), (4, .i .i64)], [(300400, .ar 9 (.str .nil))]⟩ [.ti, .tl (.str .nil)] [(2, ⟨[(3, .sl .n 300425)], [(300425, .ar 9 (.str .nil))]⟩)] [[.tl (.str .nil)]] (.sq (.nd) (.jn [4] [] [(0, ⟨[(3, .sl .n 300750)], [(300750, .ar 9 (.str .nil))]⟩)] [[.tl (.str .nil)]] (.sq (.nd) (.sq (.lp [3] [300400] ⟨[(5, .i .i64)], []⟩ [.ti] [(4, ⟨[(5, .i .i64)], []⟩)] [[.ti]] (.sq (.jn [5] [] [(0, ⟨[(26, .b)], []⟩)] [[.tb]] (.mk [] [0, 0, 2, 7, 15, 31, 31, 127, 255, 31, 31, 1567, 3615, 8191, 16383]) (.nd)) (.nd))) (.sq (.jn [3, 5] [300400] [(0, ⟨[(43, .b)], []⟩)] [[.tb]] (.mk [] [0, 0, 2, 7, 15, 31, 31, 127, 255, 31, 31, 1567, 3615, 8191, 16383]) (.nd)) (.mk [] [0, 0, 3, 7, 0, 0, 48, 112, 240, 511, 0, 0, 3072, 8191, 16383])))) (.nd))))) (.nd)))
theorem e70 (k : Nat) (y : Tup h70) : exec (P := Tryd.prog) D (lk rowsL) [C69 k] k (bodyOf Tryd.f70) n70 (fnE Tryd.f70 A70 [] (inOf A70 (ofTup h70 y))) (fnSt [] (inOf A70 (ofTup h70 y))) (leafR D (fnE Tryd.f70 A70 [] (inOf A70 (ofTup h70 y))) Tryd.f70.results.toList (R70.map (·.h)) R70) = F70 k y := by kernel_rfl
noncomputable def C70 (k : Nat) : Con Tryd.prog := ⟨70, Tryd.f70, Tryd.func70, by kernel_rfl, by kernel_rfl, A70, h70, [], R70, fun y => F70 k y, fun y r h => con_ok good mixed (c := bodyOf Tryd.f70) Tryd.func70 (by kernel_rfl) n70 y ((e70 k y).trans h)⟩
noncomputable def L53_8 (k : Nat) (x1 : (List (ByteArray × Bool × ByteArray))) (z8 : (Int × (List ByteArray))) : Option ((Int × (List ByteArray)) ⊕ (List ByteArray)) :=
cond (decide (z8.1 < (x1.length : Int))) (
(ix x1 z8.1).bind fun a9 =>
grd (decide ((z8.2.length + [a9.1].length) * 16 ≤ 140737488355328)) <|
some (.inl ((IntKind.wrap .i64 (z8.1 + 1)), (z8.2 ++ [a9.1])))) (
some (.inr z8.2))
noncomputable def F53 (k : Nat) (x1 : (List (ByteArray × Bool × ByteArray))) : Option (List ByteArray) :=
(loopN (L53_8 k x1) k (0, ([] : List ByteArray))).bind fun y10 => 
(F70 k y10).bind fun y11 => 
some y11
def A53 : CTpl := ⟨[.fz .u (.str (.bool (.str .nil)))], []⟩
def h53 : List HTy := [.tl (.str (.bool (.str .nil)))]
def R53 : List RTpl := [⟨.sl .u 500000, [(500000, .ar 9 (.str .nil))], [.tl (.str .nil)]⟩]
def n53 : An := .sq (.nd) (.sq (.nd) (.sq (.sq (.nd) (.lp [0] [] ⟨[(3, .sl .n 300400), (4, .i .i64)], [(300400, .ar 9 (.str .nil))]⟩ [.ti, .tl (.str .nil)] [(2, ⟨[(3, .sl .n 300425)], [(300425, .ar 9 (.str .nil))]⟩)] [[.tl (.str .nil)]] (.nd))) (.sq (.fr [(1, 300425)]) (.nd))))
theorem e53 (k : Nat) (y : Tup h53) : exec (P := Tryd.prog) D (lk rowsL) [C70 k] k (bodyOf Tryd.f53) n53 (fnE Tryd.f53 A53 [] (inOf A53 (ofTup h53 y))) (fnSt [] (inOf A53 (ofTup h53 y))) (leafR D (fnE Tryd.f53 A53 [] (inOf A53 (ofTup h53 y))) Tryd.f53.results.toList (R53.map (·.h)) R53) = F53 k y := by kernel_rfl
noncomputable def C53 (k : Nat) : Con Tryd.prog := ⟨53, Tryd.f53, Tryd.func53, by kernel_rfl, by kernel_rfl, A53, h53, [], R53, fun y => F53 k y, fun y r h => con_ok good mixed (c := bodyOf Tryd.f53) Tryd.func53 (by kernel_rfl) n53 y ((e53 k y).trans h)⟩
noncomputable def L54_6 (k : Nat) (x1 : (List (ByteArray × Bool × ByteArray))) (x2 : ByteArray) (z13 : (Int × ByteArray × ByteArray)) : Option ((Int × ByteArray × ByteArray) ⊕ ((ByteArray × Bool × ByteArray) ⊕ (ByteArray × ByteArray))) :=
cond (decide (0 ≤ z13.1)) (
(ix x1 z13.1).bind fun a14 =>
cond (a14.1.toList == x2.toList) (
(ix x1 z13.1).bind fun a15 =>
some (.inr (.inl (a15.1, a15.2.1, a15.2.2)))) (
some (.inl ((IntKind.wrap .i64 (z13.1 - 1)), z13.2.1, z13.2.2)))) (
some (.inr (.inr (z13.2.1, z13.2.2))))
noncomputable def F54 (k : Nat) (x1 : (List (ByteArray × Bool × ByteArray))) (x2 : ByteArray) : Option (ByteArray × Bool × ByteArray × Bool) :=
(loopN (L54_6 k x1 x2) k ((IntKind.wrap .i64 ((x1.length : Int) - 1)), ByteArray.empty, ByteArray.empty)).bind fun y16 => 
sel (fun y17 =>
some (y17.1, y17.2.1, y17.2.2, true)) (fun y18 =>
some (ByteArray.empty, false, ByteArray.empty, false)) y16
def A54 : CTpl := ⟨[.fz .u (.str (.bool (.str .nil))), .s], []⟩
def h54 : List HTy := [.tl (.str (.bool (.str .nil))), .ts]
def R54 : List RTpl := [⟨.tp [.ag [.s, .b, .s], .b], [], [.ts, .tb, .ts, .tb]⟩]
def n54 : An := .sq (.nd) (.sq (.sq (.nd) (.lp [0, 1, 4] [] ⟨[(6, .i .i64)], [(4, .bx 57 [.s, .lb false, .s])]⟩ [.ti, .ts, .ts] [(1, ⟨[(5, .lb true)], [(4, .bx 57 [.s, .b, .s])]⟩), (2, ⟨[], [(4, .bx 57 [.s, .lb false, .s])]⟩)] [[.ts, .tb, .ts], [.ts, .ts]] (.nd))) (.nd))
theorem e54 (k : Nat) (y : Tup h54) : exec (P := Tryd.prog) D (lk rowsL) [] k (bodyOf Tryd.f54) n54 (fnE Tryd.f54 A54 [] (inOf A54 (ofTup h54 y))) (fnSt [] (inOf A54 (ofTup h54 y))) (leafR D (fnE Tryd.f54 A54 [] (inOf A54 (ofTup h54 y))) Tryd.f54.results.toList (R54.map (·.h)) R54) = F54 k y.1 y.2 := by kernel_rfl
noncomputable def C54 (k : Nat) : Con Tryd.prog := ⟨54, Tryd.f54, Tryd.func54, by kernel_rfl, by kernel_rfl, A54, h54, [], R54, fun y => F54 k y.1 y.2, fun y r h => con_ok good mixed (c := bodyOf Tryd.f54) Tryd.func54 (by kernel_rfl) n54 y ((e54 k y).trans h)⟩
noncomputable def L27_10 (k : Nat) (x1 : (List (ByteArray × Bool × ByteArray))) (y2 : (List ByteArray)) (z31 : (Int × (List (ByteArray × Bool × ByteArray)))) : Option ((Int × (List (ByteArray × Bool × ByteArray))) ⊕ (List (ByteArray × Bool × ByteArray))) :=
cond (decide (z31.1 < (y2.length : Int))) (
(ix y2 z31.1).bind fun a32 =>
(y2[z31.1.toNat]?).bind fun a33 =>
(F54 k x1 a33).bind fun y34 => 
((cond y34.2.1 (
some (y34.1, y34.2.1, (⟨#[]⟩ : ByteArray))) (
some (y34.1, y34.2.1, y34.2.2.1)) : Option (ByteArray × Bool × ByteArray))).bind fun y35 => 
grd (decide ((z31.2.length + [(y35.1, y35.2.1, y35.2.2)].length) * 40 ≤ 140737488355328)) <|
some (.inl ((IntKind.wrap .i64 (z31.1 + 1)), (z31.2 ++ [(y35.1, y35.2.1, y35.2.2)])))) (
some (.inr z31.2))
noncomputable def F27 (k : Nat) (x1 : (List (ByteArray × Bool × ByteArray))) : Option (List (ByteArray × Bool × ByteArray)) :=
(F53 k x1).bind fun y2 => 
(loopN (L27_10 k x1 y2) k (0, ([] : List (ByteArray × Bool × ByteArray)))).bind fun y36 => 
some y36
def A27 : CTpl := ⟨[.fz .u (.str (.bool (.str .nil)))], []⟩
def h27 : List HTy := [.tl (.str (.bool (.str .nil)))]
def R27 : List RTpl := [⟨.sl .u 500000, [(500000, .ar 57 (.str (.bool (.str .nil))))], [.tl (.str (.bool (.str .nil)))]⟩]
def n27 : An := .sq (.nd) (.sq (.nd) (.sq (.nd) (.sq (.sq (.nd) (.lp [0, 3] [400900] ⟨[(4, .sl .n 300500), (5, .i .i64)], [(300500, .ar 57 (.str (.bool (.str .nil))))]⟩ [.ti, .tl (.str (.bool (.str .nil)))] [(2, ⟨[(4, .sl .n 300525)], [(300525, .ar 57 (.str (.bool (.str .nil))))]⟩)] [[.tl (.str (.bool (.str .nil)))]] (.sq (.nd) (.sq (.sq (.nd) (.jn [4, 5, 6] [300500] [(0, ⟨[], [(6, .bx 57 [.s, .b, .s])]⟩)] [[.ts, .tb, .ts]] (.nd) (.nd))) (.nd))))) (.nd))))
theorem e27 (k : Nat) (y : Tup h27) : exec (P := Tryd.prog) D (lk rowsL) [C53 k, C54 k] k (bodyOf Tryd.f27) n27 (fnE Tryd.f27 A27 [] (inOf A27 (ofTup h27 y))) (fnSt [] (inOf A27 (ofTup h27 y))) (leafR D (fnE Tryd.f27 A27 [] (inOf A27 (ofTup h27 y))) Tryd.f27.results.toList (R27.map (·.h)) R27) = F27 k y := by kernel_rfl
noncomputable def C27 (k : Nat) : Con Tryd.prog := ⟨27, Tryd.f27, Tryd.func27, by kernel_rfl, by kernel_rfl, A27, h27, [], R27, fun y => F27 k y, fun y r h => con_ok good mixed (c := bodyOf Tryd.f27) Tryd.func27 (by kernel_rfl) n27 y ((e27 k y).trans h)⟩
noncomputable def F12 (k : Nat) (x1 : Int) (x2 : Int) (x3 : Int) (x4 : (List (ByteArray × Bool × ByteArray))) : Option (Int × Int × Int × (List (ByteArray × Bool × ByteArray))) :=
grd ((IntKind.wrap .u32 (1 + (x1.tmod 1000))) != 0) <|
grd ((IntKind.wrap .u32 (1 + (x1.tmod 1000))) != 0) <|
(F11 k x4 6).bind fun y3 => 
(F27 k y3).bind fun y4 => 
some ((IntKind.wrap .u32 (1 + (x1.tmod 1000))), (x2.tmod (IntKind.wrap .u32 (1 + (x1.tmod 1000)))), (IntKind.wrap .u32 (1 + (x3.tmod (IntKind.wrap .u32 (1 + (x1.tmod 1000)))))), y4)
def A12 : CTpl := ⟨[.ag [.i .u32, .i .u32, .i .u32, .fz .u (.str (.bool (.str .nil)))]], []⟩
def h12 : List HTy := [.ti, .ti, .ti, .tl (.str (.bool (.str .nil)))]
def R12 : List RTpl := [⟨.ag [.i .u32, .i .u32, .i .u32, .fz .u (.str (.bool (.str .nil)))], [], [.ti, .ti, .ti, .tl (.str (.bool (.str .nil)))]⟩]
def n12 : An := .sq (.nd) (.sq (.nd) (.sq (.nd) (.sq (.nd) (.sq (.fr [(3, 402300)]) (.nd)))))
theorem e12 (k : Nat) (y : Tup h12) : exec (P := Tryd.prog) D (lk rowsL) [C11 k, C27 k] k (bodyOf Tryd.f12) n12 (fnE Tryd.f12 A12 [] (inOf A12 (ofTup h12 y))) (fnSt [] (inOf A12 (ofTup h12 y))) (leafR D (fnE Tryd.f12 A12 [] (inOf A12 (ofTup h12 y))) Tryd.f12.results.toList (R12.map (·.h)) R12) = F12 k y.1 y.2.1 y.2.2.1 y.2.2.2 := by kernel_rfl
noncomputable def C12 (k : Nat) : Con Tryd.prog := ⟨12, Tryd.f12, Tryd.func12, by kernel_rfl, by kernel_rfl, A12, h12, [], R12, fun y => F12 k y.1 y.2.1 y.2.2.1 y.2.2.2, fun y r h => con_ok good mixed (c := bodyOf Tryd.f12) Tryd.func12 (by kernel_rfl) n12 y ((e12 k y).trans h)⟩
noncomputable def F28 (k : Nat) (x1 : Int) (x2 : Int) (x3 : Int) : Option Bool :=
cond (decide (32 ≤ x1)) (
cond (decide (x1 ≤ 128)) (
cond (decide (3 ≤ x2)) (
cond (decide (x2 ≤ 10)) (
cond (decide (4 ≤ x3)) (
some (decide (x3 ≤ 12))) (
some false)) (
some false)) (
some false)) (
some false)) (
some false)
def A28 : CTpl := ⟨[.ag [.i .i64, .i .i64, .i .i64]], []⟩
def h28 : List HTy := [.ti, .ti, .ti]
def R28 : List RTpl := [⟨.b, [], [.tb]⟩]
def n28 : An := .nd
theorem e28 (k : Nat) (y : Tup h28) : exec (P := Tryd.prog) D (lk rowsL) [] k (bodyOf Tryd.f28) n28 (fnE Tryd.f28 A28 [] (inOf A28 (ofTup h28 y))) (fnSt [] (inOf A28 (ofTup h28 y))) (leafR D (fnE Tryd.f28 A28 [] (inOf A28 (ofTup h28 y))) Tryd.f28.results.toList (R28.map (·.h)) R28) = F28 k y.1 y.2.1 y.2.2 := by kernel_rfl
noncomputable def C28 (k : Nat) : Con Tryd.prog := ⟨28, Tryd.f28, Tryd.func28, by kernel_rfl, by kernel_rfl, A28, h28, [], R28, fun y => F28 k y.1 y.2.1 y.2.2, fun y r h => con_ok good mixed (c := bodyOf Tryd.f28) Tryd.func28 (by kernel_rfl) n28 y ((e28 k y).trans h)⟩
noncomputable def F79 (k : Nat) (x1 : ByteArray) : Option (Int × Int) :=
some (((Go.Lib.decodeGo x1).1 : Int), ((Go.Lib.decodeGo x1).2 : Int))
def A79 : CTpl := ⟨[.s], []⟩
def h79 : List HTy := [.ts]
def R79 : List RTpl := [⟨.tp [.i .i32, .i .i64], [], [.ti, .ti]⟩]
def n79 : An := .nd
noncomputable def C79 (k : Nat) (hm : Mo.m = false) : Con Tryd.prog := ⟨79, Tryd.f79, Tryd.func79, by kernel_rfl, by kernel_rfl, A79, h79, [], R79, fun y => F79 k y, fun y r h => by
  have h2 : some (((Go.Lib.decodeGo y).1 : Int), ((Go.Lib.decodeGo y).2 : Int)) = some r := h
  cases h2
  exact CTx.lib (vs := [.string y]) rfl (fun _ _ _ => relV_two) fun w hw => (Tryd.utf8_DecodeRuneInString y w (tabs_of (by kernel_rfl) (by kernel_rfl) hw)).mono fun e w2 g => ⟨g.1, g.2, fun g2 => by rw [hm] at g2; cases g2⟩⟩
noncomputable def L71_8 (k : Nat) (x1 : ByteArray) (z18 : (Int × ByteArray × Nat)) : Option ((Int × ByteArray × Nat) ⊕ ((ByteArray × Nat) ⊕ (Int × ByteArray × Nat))) :=
cond (decide (z18.2.2 < z18.2.1.size)) (
((cond (decide (12 < (IntKind.wrap .i64 (z18.1 + 1)))) (
some true) (
cond (decide (((Utf8.decode z18.2.1 z18.2.2).1 : Int) < 33)) (
some true) (
cond (decide (127 ≤ ((Utf8.decode z18.2.1 z18.2.2).1 : Int))) (
some (decide (((Utf8.decode z18.2.1 z18.2.2).1 : Int) ≤ 160))) (
some false))) : Option Bool)).bind fun y19 => 
cond y19 (
some (.inr (.inl (z18.2.1, (z18.2.2 + (Utf8.decode z18.2.1 z18.2.2).2))))) (
grd (bnds (x1.size : Int) (z18.2.2 : Int) (x1.size : Int)) <|
(F79 k (x1.extract ((z18.2.2 : Int).toNat) ((x1.size : Int).toNat))).bind fun y20 => 
((cond (((Utf8.decode z18.2.1 z18.2.2).1 : Int) == 65533) (
some (y20.2 == 1)) (
some false) : Option Bool)).bind fun y21 => 
cond y21 (
some (.inr (.inl (z18.2.1, (z18.2.2 + (Utf8.decode z18.2.1 z18.2.2).2))))) (
some (.inl ((IntKind.wrap .i64 (z18.1 + 1)), z18.2.1, (z18.2.2 + (Utf8.decode z18.2.1 z18.2.2).2)))))) (
some (.inr (.inr (z18.1, z18.2.1, z18.2.2))))
noncomputable def F71 (k : Nat) (x1 : ByteArray) : Option Bool :=
(loopN (L71_8 k x1) k (0, x1, 0)).bind fun y22 => 
sel (fun y23 =>
some false) (fun y24 =>
some (decide (0 < y24.1))) y22
def A71 : CTpl := ⟨[.s], []⟩
def h71 : List HTy := [.ts]
def R71 : List RTpl := [⟨.b, [], [.tb]⟩]
def n71 : An := .sq (.nd) (.sq (.nd) (.sq (.sq (.nd) (.lp [0, 9] [] ⟨[(3, .i .i64)], [(9, .si)]⟩ [.ti, .ts, .tn] [(1, ⟨[(2, .lb false)], [(9, .si)]⟩), (2, ⟨[(3, .i .i64)], [(9, .si)]⟩)] [[.ts, .tn], [.ti, .ts, .tn]] (.sq (.nd) (.sq (.nd) (.sq (.nd) (.sq (.nd) (.sq (.jn [3, 4, 5] [9] [(0, ⟨[(29, .b)], []⟩)] [[.tb]] (.nd) (.nd)) (.sq (.nd) (.jn [3] [9] [(0, ⟨[(42, .b)], []⟩)] [[.tb]] (.nd) (.nd)))))))))) (.nd)))
theorem e71 (k : Nat) (hm : Mo.m = false) (y : Tup h71) : exec (P := Tryd.prog) D (lk rowsL) [C79 k hm] k (bodyOf Tryd.f71) n71 (fnE Tryd.f71 A71 [] (inOf A71 (ofTup h71 y))) (fnSt [] (inOf A71 (ofTup h71 y))) (leafR D (fnE Tryd.f71 A71 [] (inOf A71 (ofTup h71 y))) Tryd.f71.results.toList (R71.map (·.h)) R71) = F71 k y := by kernel_rfl
noncomputable def C71 (k : Nat) (hm : Mo.m = false) : Con Tryd.prog := ⟨71, Tryd.f71, Tryd.func71, by kernel_rfl, by kernel_rfl, A71, h71, [], R71, fun y => F71 k y, fun y r h => con_ok good mixed (c := bodyOf Tryd.f71) Tryd.func71 (by kernel_rfl) n71 y ((e71 k hm y).trans h)⟩
noncomputable def L84_8 (k : Nat) (z3 : (ByteArray × Nat × (List Int))) : Option ((ByteArray × Nat × (List Int)) ⊕ (ByteArray × Nat × (List Int))) :=
cond (decide (z3.2.1 < z3.1.size)) (
grd (decide ((z3.2.2.length + [((Utf8.decode z3.1 z3.2.1).1 : Int)].length) * 4 ≤ 140737488355328)) <|
some (.inl (z3.1, (z3.2.1 + (Utf8.decode z3.1 z3.2.1).2), (z3.2.2 ++ [((Utf8.decode z3.1 z3.2.1).1 : Int)])))) (
some (.inr (z3.1, z3.2.1, z3.2.2)))
noncomputable def F84 (k : Nat) (x1 : ByteArray) : Option (List Int) :=
(loopN (L84_8 k) k (x1, 0, ([] : List Int))).bind fun y4 => 
some y4.2.2
def A84 : CTpl := ⟨[.s], []⟩
def h84 : List HTy := [.ts]
def R84 : List RTpl := [⟨.sl .u 500000, [(500000, .ar 21 (.int .i32 .nil))], [.tl (.int .i32 .nil)]⟩]
def n84 : An := .sq (.nd) (.sq (.nd) (.sq (.sq (.nd) (.lp [7] [] ⟨[(3, .sl .n 300400)], [(7, .si), (300400, .ar 21 (.int .i32 .nil))]⟩ [.ts, .tn, .tl (.int .i32 .nil)] [(2, ⟨[(3, .sl .n 300425)], [(7, .si), (300425, .ar 21 (.int .i32 .nil))]⟩)] [[.ts, .tn, .tl (.int .i32 .nil)]] (.nd))) (.nd)))
theorem e84 (k : Nat) (y : Tup h84) : exec (P := Tryd.prog) D (lk rowsL) [] k (bodyOf Tryd.f84) n84 (fnE Tryd.f84 A84 [] (inOf A84 (ofTup h84 y))) (fnSt [] (inOf A84 (ofTup h84 y))) (leafR D (fnE Tryd.f84 A84 [] (inOf A84 (ofTup h84 y))) Tryd.f84.results.toList (R84.map (·.h)) R84) = F84 k y := by kernel_rfl
noncomputable def C84 (k : Nat) : Con Tryd.prog := ⟨84, Tryd.f84, Tryd.func84, by kernel_rfl, by kernel_rfl, A84, h84, [], R84, fun y => F84 k y, fun y r h => con_ok good mixed (c := bodyOf Tryd.f84) Tryd.func84 (by kernel_rfl) n84 y ((e84 k y).trans h)⟩
noncomputable def F88 (k : Nat) (x1 : Int) : Option Bool :=
some (x1 != x1)
def A88 : CTpl := ⟨[.i .i32], []⟩
def h88 : List HTy := [.ti]
def R88 : List RTpl := [⟨.b, [], [.tb]⟩]
def n88 : An := .nd
theorem e88 (k : Nat) (y : Tup h88) : exec (P := Tryd.prog) D (lk rowsL) [] k (bodyOf Tryd.f88) n88 (fnE Tryd.f88 A88 [] (inOf A88 (ofTup h88 y))) (fnSt [] (inOf A88 (ofTup h88 y))) (leafR D (fnE Tryd.f88 A88 [] (inOf A88 (ofTup h88 y))) Tryd.f88.results.toList (R88.map (·.h)) R88) = F88 k y := by kernel_rfl
noncomputable def C88 (k : Nat) : Con Tryd.prog := ⟨88, Tryd.f88, Tryd.func88, by kernel_rfl, by kernel_rfl, A88, h88, [], R88, fun y => F88 k y, fun y r h => con_ok good mixed (c := bodyOf Tryd.f88) Tryd.func88 (by kernel_rfl) n88 y ((e88 k y).trans h)⟩
noncomputable def F87 (k : Nat) (x1 : Int) (x2 : Int) : Option Int :=
(F88 k x1).bind fun y2 => 
(F88 k x2).bind fun y4 => 
cond y2 (
cond y4 (
some 0) (
some (-1))) (
cond y4 (
some 1) (
cond (decide (x1 < x2)) (
some (-1)) (
cond (decide (x2 < x1)) (
some 1) (
some 0))))
def A87 : CTpl := ⟨[.i .i32, .i .i32], []⟩
def h87 : List HTy := [.ti, .ti]
def R87 : List RTpl := [⟨.i .i64, [], [.ti]⟩]
def n87 : An := .nd
theorem e87 (k : Nat) (y : Tup h87) : exec (P := Tryd.prog) D (lk rowsL) [C88 k] k (bodyOf Tryd.f87) n87 (fnE Tryd.f87 A87 [] (inOf A87 (ofTup h87 y))) (fnSt [] (inOf A87 (ofTup h87 y))) (leafR D (fnE Tryd.f87 A87 [] (inOf A87 (ofTup h87 y))) Tryd.f87.results.toList (R87.map (·.h)) R87) = F87 k y.1 y.2 := by kernel_rfl
noncomputable def C87 (k : Nat) : Con Tryd.prog := ⟨87, Tryd.f87, Tryd.func87, by kernel_rfl, by kernel_rfl, A87, h87, [], R87, fun y => F87 k y.1 y.2, fun y r h => con_ok good mixed (c := bodyOf Tryd.f87) Tryd.func87 (by kernel_rfl) n87 y ((e87 k y).trans h)⟩
noncomputable def L85_6 (k : Nat) (x1 : (List Int)) (x2 : (List Int)) (z27 : Int) : Option (Int ⊕ (Int ⊕ Unit)) :=
cond (decide (z27 < (x1.length : Int))) (
(ix x1 z27).bind fun a28 =>
cond (decide ((x2.length : Int) ≤ z27)) (
some (.inr (.inl 1))) (
(ix x2 z27).bind fun a29 =>
(x2[z27.toNat]?).bind fun a30 =>
(F87 k a28 a30).bind fun y31 => 
cond (y31 != 0) (
some (.inr (.inl y31))) (
some (.inl (IntKind.wrap .i64 (z27 + 1)))))) (
some (.inr (.inr ())))
noncomputable def F85 (k : Nat) (x1 : (List Int)) (x2 : (List Int)) : Option Int :=
(loopN (L85_6 k x1 x2) k 0).bind fun y32 => 
sel (fun y33 =>
some y33) (fun y34 =>
cond (decide ((x1.length : Int) < (x2.length : Int))) (
some (-1)) (
some 0)) y32
def A85 : CTpl := ⟨[.fz .u (.int .i32 .nil), .sl .u 1000000], [(1000000, .ar 21 (.int .i32 .nil))]⟩
def h85 : List HTy := [.tl (.int .i32 .nil), .tl (.int .i32 .nil)]
def R85 : List RTpl := [⟨.i .i64, [], [.ti]⟩]
def n85 : An := .sq (.nd) (.sq (.sq (.nd) (.lp [0, 1, 9, 10] [] ⟨[(11, .i .i64)], []⟩ [.ti] [(1, ⟨[(4, .i .i64)], []⟩), (2, ⟨[], []⟩)] [[.ti], []] (.nd))) (.nd))
theorem e85 (k : Nat) (y : Tup h85) : exec (P := Tryd.prog) D (lk rowsL) [C87 k] k (bodyOf Tryd.f85) n85 (fnE Tryd.f85 A85 [1000000] (inOf A85 (ofTup h85 y))) (fnSt [1000000] (inOf A85 (ofTup h85 y))) (leafR D (fnE Tryd.f85 A85 [1000000] (inOf A85 (ofTup h85 y))) Tryd.f85.results.toList (R85.map (·.h)) R85) = F85 k y.1 y.2 := by kernel_rfl
noncomputable def C85 (k : Nat) : Con Tryd.prog := ⟨85, Tryd.f85, Tryd.func85, by kernel_rfl, by kernel_rfl, A85, h85, [1000000], R85, fun y => F85 k y.1 y.2, fun y r h => con_ok good mixed (c := bodyOf Tryd.f85) Tryd.func85 (by kernel_rfl) n85 y ((e85 k y).trans h)⟩
noncomputable def L85_1_6 (k : Nat) (x1 : (List Int)) (x2 : (List Int)) (z22 : Int) : Option (Int ⊕ (Int ⊕ Unit)) :=
cond (decide (z22 < (x1.length : Int))) (
(ix x1 z22).bind fun a23 =>
cond (decide ((x2.length : Int) ≤ z22)) (
some (.inr (.inl 1))) (
(ix x2 z22).bind fun a24 =>
(F87 k a23 a24).bind fun y25 => 
cond (y25 != 0) (
some (.inr (.inl y25))) (
some (.inl (IntKind.wrap .i64 (z22 + 1)))))) (
some (.inr (.inr ())))
noncomputable def F85_1 (k : Nat) (x1 : (List Int)) (x2 : (List Int)) : Option Int :=
(loopN (L85_1_6 k x1 x2) k 0).bind fun y26 => 
sel (fun y27 =>
some y27) (fun y28 =>
cond (decide ((x1.length : Int) < (x2.length : Int))) (
some (-1)) (
some 0)) y26
def A85_1 : CTpl := ⟨[.fz .u (.int .i32 .nil), .fz .u (.int .i32 .nil)], []⟩
def h85_1 : List HTy := [.tl (.int .i32 .nil), .tl (.int .i32 .nil)]
def R85_1 : List RTpl := [⟨.i .i64, [], [.ti]⟩]
def n85_1 : An := .sq (.nd) (.sq (.sq (.nd) (.lp [0, 1, 9, 10] [] ⟨[(11, .i .i64)], []⟩ [.ti] [(1, ⟨[(4, .i .i64)], []⟩), (2, ⟨[], []⟩)] [[.ti], []] (.nd))) (.nd))
theorem e85_1 (k : Nat) (y : Tup h85_1) : exec (P := Tryd.prog) D (lk rowsL) [C87 k] k (bodyOf Tryd.f85) n85_1 (fnE Tryd.f85 A85_1 [] (inOf A85_1 (ofTup h85_1 y))) (fnSt [] (inOf A85_1 (ofTup h85_1 y))) (leafR D (fnE Tryd.f85 A85_1 [] (inOf A85_1 (ofTup h85_1 y))) Tryd.f85.results.toList (R85_1.map (·.h)) R85_1) = F85_1 k y.1 y.2 := by kernel_rfl
noncomputable def C85_1 (k : Nat) : Con Tryd.prog := ⟨85, Tryd.f85, Tryd.func85, by kernel_rfl, by kernel_rfl, A85_1, h85_1, [], R85_1, fun y => F85_1 k y.1 y.2, fun y r h => con_ok good mixed (c := bodyOf Tryd.f85) Tryd.func85 (by kernel_rfl) n85_1 y ((e85_1 k y).trans h)⟩
noncomputable def F80 (k : Nat) (x1 : ByteArray) (x2 : ByteArray) : Option Int :=
(F84 k x1).bind fun y3 => 
(F84 k x2).bind fun y4 => 
(F85_1 k y3 y4).bind fun y5 => 
some y5
def A80 : CTpl := ⟨[.s, .s], []⟩
def h80 : List HTy := [.ts, .ts]
def R80 : List RTpl := [⟨.i .i64, [], [.ti]⟩]
def n80 : An := .sq (.nd) (.sq (.nd) (.sq (.fr [(2, 400800), (2, 401000)]) (.nd)))
theorem e80 (k : Nat) (y : Tup h80) : exec (P := Tryd.prog) D (lk rowsL) [C84 k, C85_1 k] k (bodyOf Tryd.f80) n80 (fnE Tryd.f80 A80 [] (inOf A80 (ofTup h80 y))) (fnSt [] (inOf A80 (ofTup h80 y))) (leafR D (fnE Tryd.f80 A80 [] (inOf A80 (ofTup h80 y))) Tryd.f80.results.toList (R80.map (·.h)) R80) = F80 k y.1 y.2 := by kernel_rfl
noncomputable def C80 (k : Nat) : Con Tryd.prog := ⟨80, Tryd.f80, Tryd.func80, by kernel_rfl, by kernel_rfl, A80, h80, [], R80, fun y => F80 k y.1 y.2, fun y r h => con_ok good mixed (c := bodyOf Tryd.f80) Tryd.func80 (by kernel_rfl) n80 y ((e80 k y).trans h)⟩
noncomputable def F72 (k : Nat) (x1 : ByteArray) (x2 : ByteArray) : Option Bool :=
(F80 k x1 x2).bind fun y2 => 
cond (decide (y2 < 0)) (
some true) (
cond (y2 == 0) (
some (Op.bytesLess x1.toList x2.toList)) (
some false))
def A72 : CTpl := ⟨[.s, .s], []⟩
def h72 : List HTy := [.ts, .ts]
def R72 : List RTpl := [⟨.b, [], [.tb]⟩]
def n72 : An := .nd
theorem e72 (k : Nat) (y : Tup h72) : exec (P := Tryd.prog) D (lk rowsL) [C80 k] k (bodyOf Tryd.f72) n72 (fnE Tryd.f72 A72 [] (inOf A72 (ofTup h72 y))) (fnSt [] (inOf A72 (ofTup h72 y))) (leafR D (fnE Tryd.f72 A72 [] (inOf A72 (ofTup h72 y))) Tryd.f72.results.toList (R72.map (·.h)) R72) = F72 k y.1 y.2 := by kernel_rfl
noncomputable def C72 (k : Nat) : Con Tryd.prog := ⟨72, Tryd.f72, Tryd.func72, by kernel_rfl, by kernel_rfl, A72, h72, [], R72, fun y => F72 k y.1 y.2, fun y r h => con_ok good mixed (c := bodyOf Tryd.f72) Tryd.func72 (by kernel_rfl) n72 y ((e72 k y).trans h)⟩
noncomputable def L55_14 (k : Nat) (x1 : (List (ByteArray × Bool × ByteArray))) (z40 : Int) : Option (Int ⊕ (Int ⊕ Unit)) :=
cond (decide (z40 < (x1.length : Int))) (
(ix x1 z40).bind fun a41 =>
(F71 k a41.1).bind fun y42 => 
cond (!y42) (
some (.inr (.inl 10))) (
cond (decide (48 < (a41.2.2.size : Int))) (
some (.inr (.inl 11))) (
((cond a41.2.1 (
cond (!(a41.2.2.toList == (⟨#[]⟩ : ByteArray).toList)) (
some true) (
cond (decide (0 < z40)) (
(ix x1 (IntKind.wrap .i64 (z40 - 1))).bind fun a43 =>
(F72 k a43.1 a41.1).bind fun y44 => 
some (!y44)) (
some false))) (
cond (decide (0 < z40)) (
(ix x1 (IntKind.wrap .i64 (z40 - 1))).bind fun a45 =>
(F72 k a45.1 a41.1).bind fun y46 => 
some (!y46)) (
some false)) : Option Bool)).bind fun y47 => 
cond y47 (
some (.inr (.inl 2))) (
some (.inl (IntKind.wrap .i64 (z40 + 1))))))) (
some (.inr (.inr ())))
noncomputable def F55 (k : Nat) (x1 : (List (ByteArray × Bool × ByteArray))) : Option Int :=
((cond (decide ((x1.length : Int) < 1)) (
some true) (
some (decide (8 < (x1.length : Int)))) : Option Bool)).bind fun y2 => 
cond y2 (
some 12) (
(loopN (L55_14 k x1) k 0).bind fun y48 => 
sel (fun y49 =>
some y49) (fun y50 =>
some 0) y48)
def A55 : CTpl := ⟨[.fz .u (.str (.bool (.str .nil)))], []⟩
def h55 : List HTy := [.tl (.str (.bool (.str .nil)))]
def R55 : List RTpl := [⟨.i .i64, [], [.ti]⟩]
def n55 : An := .sq (.nd) (.sq (.jn [0] [] [(0, ⟨[(12, .b)], []⟩)] [[.tb]] (.nd) (.nd)) (.sq (.sq (.nd) (.lp [0, 13, 14] [] ⟨[(15, .i .i64)], []⟩ [.ti] [(1, ⟨[(2, .i .i64)], []⟩), (2, ⟨[], []⟩)] [[.ti], []] (.sq (.nd) (.sq (.nd) (.sq (.sq (.nd) (.sq (.nd) (.sq (.nd) (.sq (.nd) (.sq (.nd) (.jn [15] [] [(0, ⟨[(30, .b)], []⟩)] [[.tb]] (.mk [] [0, 1, 3, 7, 15, 31, 63, 127, 255, 511, 1023, 2047, 2047, 6143, 16383, 32767, 65535, 2047, 133119, 524287, 1048575, 2097151, 4194303, 8388607]) (.nd))))))) (.nd)))))) (.nd)))
theorem e55 (k : Nat) (hm : Mo.m = false) (y : Tup h55) : exec (P := Tryd.prog) D (lk rowsL) [C71 k hm, C72 k] k (bodyOf Tryd.f55) n55 (fnE Tryd.f55 A55 [] (inOf A55 (ofTup h55 y))) (fnSt [] (inOf A55 (ofTup h55 y))) (leafR D (fnE Tryd.f55 A55 [] (inOf A55 (ofTup h55 y))) Tryd.f55.results.toList (R55.map (·.h)) R55) = F55 k y := by kernel_rfl
noncomputable def C55 (k : Nat) (hm : Mo.m = false) : Con Tryd.prog := ⟨55, Tryd.f55, Tryd.func55, by kernel_rfl, by kernel_rfl, A55, h55, [], R55, fun y => F55 k y, fun y r h => con_ok good mixed (c := bodyOf Tryd.f55) Tryd.func55 (by kernel_rfl) n55 y ((e55 k hm y).trans h)⟩
noncomputable def L56_6 (k : Nat) (z3 : (Int × (List Int))) : Option ((Int × (List Int)) ⊕ (Int × (List Int))) :=
cond (decide (128 ≤ z3.1)) (
grd (decide ((z3.2.length + [(bits .or .u8 (IntKind.wrap .u8 z3.1) 128)].length) * 1 ≤ 140737488355328)) <|
some (.inl ((z3.1.fdiv (2 ^ 7)), (z3.2 ++ [(bits .or .u8 (IntKind.wrap .u8 z3.1) 128)])))) (
some (.inr (z3.1, z3.2)))
noncomputable def F56 (k : Nat) (x1 : Int) : Option ByteArray :=
(loopN (L56_6 k) k (x1, ([] : List Int))).bind fun y4 => 
grd (decide ((y4.2.length + [(IntKind.wrap .u8 y4.1)].length) * 1 ≤ 140737488355328)) <|
some (strOfNums (y4.2 ++ [(IntKind.wrap .u8 y4.1)]))
def A56 : CTpl := ⟨[.i .u32], []⟩
def h56 : List HTy := [.ti]
def R56 : List RTpl := [⟨.s, [], [.ts]⟩]
def n56 : An := .sq (.nd) (.sq (.nd) (.sq (.lp [] [] ⟨[(0, .i .u32), (3, .sl .n 300300)], [(300300, .ar 5 (.int .u8 .nil))]⟩ [.ti, .tl (.int .u8 .nil)] [(2, ⟨[(0, .i .u32), (3, .sl .n 300325)], [(300325, .ar 5 (.int .u8 .nil))]⟩)] [[.ti, .tl (.int .u8 .nil)]] (.nd)) (.nd)))
theorem e56 (k : Nat) (y : Tup h56) : exec (P := Tryd.prog) D (lk rowsL) [] k (bodyOf Tryd.f56) n56 (fnE Tryd.f56 A56 [] (inOf A56 (ofTup h56 y))) (fnSt [] (inOf A56 (ofTup h56 y))) (leafR D (fnE Tryd.f56 A56 [] (inOf A56 (ofTup h56 y))) Tryd.f56.results.toList (R56.map (·.h)) R56) = F56 k y := by kernel_rfl
noncomputable def C56 (k : Nat) : Con Tryd.prog := ⟨56, Tryd.f56, Tryd.func56, by kernel_rfl, by kernel_rfl, A56, h56, [], R56, fun y => F56 k y, fun y r h => con_ok good mixed (c := bodyOf Tryd.f56) Tryd.func56 (by kernel_rfl) n56 y ((e56 k y).trans h)⟩
noncomputable def F63 (k : Nat) (x1 : (List Int)) : Option Unit :=
some ()
def A63 : CTpl := ⟨[.pt 1000000 0], [(1000000, .bx 77 [.sp 1000000, .sl .u 1000001]), (1000001, .ar 5 (.int .u8 .nil))]⟩
def h63 : List HTy := [.tl (.int .u8 .nil)]
def R63 : List RTpl := [⟨.tp [], [], []⟩]
def n63 : An := .nd
noncomputable def C63 (k : Nat) : Con Tryd.prog := ⟨63, Tryd.f63, Tryd.func63, by kernel_rfl, by kernel_rfl, A63, h63, [1000000, 1000001], R63, fun y => F63 k y, fun y r h => by
  have h2 : some () = some r := h
  cases h2
  exact CTx.copyCheck Tryd.bld_fresh Tryd.bld_used _ _⟩
noncomputable def F41 (k : Nat) (x1 : ByteArray) (x2 : (List Int)) : Option (Int × (List Int)) :=
(F63 k x2).bind fun y2 => 
grd (decide (x2.length + x1.size ≤ 140737488355328)) <|
some ((x1.size : Int), (x2 ++ (strNums x1)))
def A41 : CTpl := ⟨[.pt 1000000 0, .s], [(1000000, .bx 77 [.sp 1000000, .sl .u 1000001]), (1000001, .ar 5 (.int .u8 .nil))]⟩
def h41 : List HTy := [.ts, .tl (.int .u8 .nil)]
def R41 : List RTpl := [⟨.tp [.i .i64, .c (.nilIface)], [(1000000, .bx 77 [.sp 1000000, .sl .u 500000]), (1000001, .gone), (500000, .ar 5 (.int .u8 .nil))], [.ti, .tl (.int .u8 .nil)]⟩]
def n41 : An := .nd
theorem e41 (k : Nat) (y : Tup h41) : exec (P := Tryd.prog) D (lk rowsL) [C63 k] k (bodyOf Tryd.f41) n41 (fnE Tryd.f41 A41 [] (inOf A41 (ofTup h41 y))) (fnSt [] (inOf A41 (ofTup h41 y))) (leafR D (fnE Tryd.f41 A41 [] (inOf A41 (ofTup h41 y))) Tryd.f41.results.toList (R41.map (·.h)) R41) = F41 k y.1 y.2 := by kernel_rfl
noncomputable def C41 (k : Nat) : Con Tryd.prog := ⟨41, Tryd.f41, Tryd.func41, by kernel_rfl, by kernel_rfl, A41, h41, [], R41, fun y => F41 k y.1 y.2, fun y r h => con_ok good mixed (c := bodyOf Tryd.f41) Tryd.func41 (by kernel_rfl) n41 y ((e41 k y).trans h)⟩
noncomputable def F57 (k : Nat) (x1 : ByteArray) : Option ByteArray :=
(F56 k (IntKind.wrap .u32 (x1.size : Int))).bind fun y1 => 
grd (decide (y1.size + x1.size ≤ 9223372036854775807)) <|
some (y1 ++ x1)
def A57 : CTpl := ⟨[.s], []⟩
def h57 : List HTy := [.ts]
def R57 : List RTpl := [⟨.s, [], [.ts]⟩]
def n57 : An := .nd
theorem e57 (k : Nat) (y : Tup h57) : exec (P := Tryd.prog) D (lk rowsL) [C56 k] k (bodyOf Tryd.f57) n57 (fnE Tryd.f57 A57 [] (inOf A57 (ofTup h57 y))) (fnSt [] (inOf A57 (ofTup h57 y))) (leafR D (fnE Tryd.f57 A57 [] (inOf A57 (ofTup h57 y))) Tryd.f57.results.toList (R57.map (·.h)) R57) = F57 k y := by kernel_rfl
noncomputable def C57 (k : Nat) : Con Tryd.prog := ⟨57, Tryd.f57, Tryd.func57, by kernel_rfl, by kernel_rfl, A57, h57, [], R57, fun y => F57 k y, fun y r h => con_ok good mixed (c := bodyOf Tryd.f57) Tryd.func57 (by kernel_rfl) n57 y ((e57 k y).trans h)⟩
noncomputable def F43 (k : Nat) (x1 : (List Int)) : Option (ByteArray × (List Int)) :=
grd (byteB x1) (some (strOfNums x1, x1))
def A43 : CTpl := ⟨[.pt 1000000 0], [(1000000, .bx 77 [.sp 1000000, .sl .u 1000001]), (1000001, .ar 5 (.int .u8 .nil))]⟩
def h43 : List HTy := [.tl (.int .u8 .nil)]
def R43 : List RTpl := [⟨.s, [(1000001, .ar 2000005 (.int .u8 .nil))], [.ts, .tl (.int .u8 .nil)]⟩]
def n43 : An := .nd
noncomputable def C43 (k : Nat) : Con Tryd.prog := ⟨43, Tryd.f43, Tryd.func43, by kernel_rfl, by kernel_rfl, A43, h43, [1000000], R43, fun y => F43 k y, fun y r h => by
  have h2 : grd (byteB y) (some (strOfNums y, y)) = some r := h
  obtain ⟨hb, h3⟩ := grd_out h2
  cases h3
  exact CTx.builderStr (ρ := Tryd.lays169_ren) Tryd.lays169 Tryd.Builder_Extra_169 (.inl rfl) (by decide) hb⟩
noncomputable def L29_20 (k : Nat) (x1 : (List (ByteArray × Bool × ByteArray))) (z49 : (Int × (List Int))) : Option ((Int × (List Int)) ⊕ (List Int)) :=
cond (decide (z49.1 < (x1.length : Int))) (
(((ix x1 z49.1).bind fun a50 =>
cond a50.2.1 (
(F57 k a50.1).bind fun y51 => 
grd (decide ((⟨#[1]⟩ : ByteArray).size + y51.size ≤ 9223372036854775807)) <|
(F41 k ((⟨#[1]⟩ : ByteArray) ++ y51) z49.2).bind fun y52 => 
some y52.2) (
(F57 k a50.1).bind fun y53 => 
grd (decide ((⟨#[0]⟩ : ByteArray).size + y53.size ≤ 9223372036854775807)) <|
(F57 k a50.2.2).bind fun y54 => 
grd (decide (((⟨#[0]⟩ : ByteArray) ++ y53).size + y54.size ≤ 9223372036854775807)) <|
(F41 k (((⟨#[0]⟩ : ByteArray) ++ y53) ++ y54) z49.2).bind fun y55 => 
some y55.2) : Option (List Int))).bind fun y56 => 
some (.inl ((IntKind.wrap .i64 (z49.1 + 1)), y56))) (
some (.inr z49.2))
noncomputable def F29 (k : Nat) (x1 : (List (ByteArray × Bool × ByteArray))) : Option (ByteArray × Int) :=
(F55 k x1).bind fun y3 => 
cond (y3 != 0) (
some ((⟨#[]⟩ : ByteArray), y3)) (
(F56 k (IntKind.wrap .u32 (x1.length : Int))).bind fun y6 => 
(F41 k y6 ([] : List Int)).bind fun y7 => 
(loopN (L29_20 k x1) k (0, y7.2)).bind fun y57 => 
(F43 k y57).bind fun y58 => 
some (y58.1, 0))
def A29 : CTpl := ⟨[.fz .u (.str (.bool (.str .nil)))], []⟩
def h29 : List HTy := [.tl (.str (.bool (.str .nil)))]
def R29 : List RTpl := [⟨.tp [.s, .i .i64], [], [.ts, .ti]⟩]
def n29 : An := .sq (.nd) (.sq (.nd) (.sq (.nd) (.sq (.nd) (.sq (.sq (.nd) (.lp [5, 18, 19] [] ⟨[(20, .i .i64)], [(5, .bx 77 [.sp 5, .sl .u 301000]), (301000, .ar 5 (.int .u8 .nil))]⟩ [.ti, .tl (.int .u8 .nil)] [(2, ⟨[], [(5, .bx 77 [.sp 5, .sl .u 301025]), (301025, .ar 5 (.int .u8 .nil))]⟩)] [[.tl (.int .u8 .nil)]] (.sq (.nd) (.sq (.nd) (.jn [20] [] [(0, ⟨[], [(5, .bx 77 [.sp 5, .sl .u 301350]), (301350, .ar 5 (.int .u8 .nil))]⟩)] [[.tl (.int .u8 .nil)]] (.sq (.nd) (.sq (.nd) (.sq (.nd) (.mk [] [0, 1, 3, 7, 0, 16, 55, 127, 255])))) (.nd)))))) (.nd)))))
theorem e29 (k : Nat) (hm : Mo.m = false) (y : Tup h29) : exec (P := Tryd.prog) D (lk rowsL) [C55 k hm, C56 k, C41 k, C57 k, C43 k] k (bodyOf Tryd.f29) n29 (fnE Tryd.f29 A29 [] (inOf A29 (ofTup h29 y))) (fnSt [] (inOf A29 (ofTup h29 y))) (leafR D (fnE Tryd.f29 A29 [] (inOf A29 (ofTup h29 y))) Tryd.f29.results.toList (R29.map (·.h)) R29) = F29 k y := by kernel_rfl
noncomputable def C29 (k : Nat) (hm : Mo.m = false) : Con Tryd.prog := ⟨29, Tryd.f29, Tryd.func29, by kernel_rfl, by kernel_rfl, A29, h29, [], R29, fun y => F29 k y, fun y r h => con_ok good mixed (c := bodyOf Tryd.f29) Tryd.func29 (by kernel_rfl) n29 y ((e29 k hm y).trans h)⟩
noncomputable def F25 (k : Nat) (x1 : Int) (x2 : Int) (x3 : Int) : Option Int :=
(F28 k x1 x2 x3).bind fun y3 => 
cond (!y3) (
some 0) (
some (IntKind.wrap .i64 (x1 - 15)))
def A25 : CTpl := ⟨[.ag [.i .i64, .i .i64, .i .i64]], []⟩
def h25 : List HTy := [.ti, .ti, .ti]
def R25 : List RTpl := [⟨.i .i64, [], [.ti]⟩]
def n25 : An := .nd
theorem e25 (k : Nat) (y : Tup h25) : exec (P := Tryd.prog) D (lk rowsL) [C28 k] k (bodyOf Tryd.f25) n25 (fnE Tryd.f25 A25 [] (inOf A25 (ofTup h25 y))) (fnSt [] (inOf A25 (ofTup h25 y))) (leafR D (fnE Tryd.f25 A25 [] (inOf A25 (ofTup h25 y))) Tryd.f25.results.toList (R25.map (·.h)) R25) = F25 k y.1 y.2.1 y.2.2 := by kernel_rfl
noncomputable def C25 (k : Nat) : Con Tryd.prog := ⟨25, Tryd.f25, Tryd.func25, by kernel_rfl, by kernel_rfl, A25, h25, [], R25, fun y => F25 k y.1 y.2.1 y.2.2, fun y r h => con_ok good mixed (c := bodyOf Tryd.f25) Tryd.func25 (by kernel_rfl) n25 y ((e25 k y).trans h)⟩
noncomputable def F23 (k : Nat) (x1 : Int) (x2 : Int) (x3 : Int) (x4 : Int) : Option Int :=
(F28 k x1 x2 x3).bind fun y3 => 
cond (!y3) (
some 0) (
(F25 k x1 x2 x3).bind fun y4 => 
(F25 k x1 x2 x3).bind fun y5 => 
grd (y5 != 0) <|
some (IntKind.wrap .i64 ((mx (IntKind.wrap .i64 ((IntKind.wrap .i64 ((IntKind.wrap .i64 ((mn (mx x4 0) 1048576) + y4)) - 1)).tdiv y5)) 1) + 1)))
def A23 : CTpl := ⟨[.ag [.i .i64, .i .i64, .i .i64], .i .i64], []⟩
def h23 : List HTy := [.ti, .ti, .ti, .ti]
def R23 : List RTpl := [⟨.i .i64, [], [.ti]⟩]
def n23 : An := .sq (.nd) (.sq (.nd) (.sq (.nd) (.sq (.mk [] [0, 0, 2, 7, 15, 0, 38, 127, 255, 511, 1023]) (.nd))))
theorem e23 (k : Nat) (y : Tup h23) : exec (P := Tryd.prog) D (lk rowsL) [C28 k, C25 k] k (bodyOf Tryd.f23) n23 (fnE Tryd.f23 A23 [] (inOf A23 (ofTup h23 y))) (fnSt [] (inOf A23 (ofTup h23 y))) (leafR D (fnE Tryd.f23 A23 [] (inOf A23 (ofTup h23 y))) Tryd.f23.results.toList (R23.map (·.h)) R23) = F23 k y.1 y.2.1 y.2.2.1 y.2.2.2 := by kernel_rfl
noncomputable def C23 (k : Nat) : Con Tryd.prog := ⟨23, Tryd.f23, Tryd.func23, by kernel_rfl, by kernel_rfl, A23, h23, [], R23, fun y => F23 k y.1 y.2.1 y.2.2.1 y.2.2.2, fun y r h => con_ok good mixed (c := bodyOf Tryd.f23) Tryd.func23 (by kernel_rfl) n23 y ((e23 k y).trans h)⟩
noncomputable def F52 (k : Nat) (x1 : Int) (x2 : Int) (x3 : Int) : Option Int :=
(F28 k x1 x2 x3).bind fun y3 => 
cond (!y3) (
some 0) (
some (IntKind.wrap .i64 (x2 - 1)))
def A52 : CTpl := ⟨[.ag [.i .i64, .i .i64, .i .i64]], []⟩
def h52 : List HTy := [.ti, .ti, .ti]
def R52 : List RTpl := [⟨.i .i64, [], [.ti]⟩]
def n52 : An := .nd
theorem e52 (k : Nat) (y : Tup h52) : exec (P := Tryd.prog) D (lk rowsL) [C28 k] k (bodyOf Tryd.f52) n52 (fnE Tryd.f52 A52 [] (inOf A52 (ofTup h52 y))) (fnSt [] (inOf A52 (ofTup h52 y))) (leafR D (fnE Tryd.f52 A52 [] (inOf A52 (ofTup h52 y))) Tryd.f52.results.toList (R52.map (·.h)) R52) = F52 k y.1 y.2.1 y.2.2 := by kernel_rfl
noncomputable def C52 (k : Nat) : Con Tryd.prog := ⟨52, Tryd.f52, Tryd.func52, by kernel_rfl, by kernel_rfl, A52, h52, [], R52, fun y => F52 k y.1 y.2.1 y.2.2, fun y r h => con_ok good mixed (c := bodyOf Tryd.f52) Tryd.func52 (by kernel_rfl) n52 y ((e52 k y).trans h)⟩
noncomputable def F24 (k : Nat) (x1 : Int) (x2 : Int) (x3 : Int) : Option Int :=
(F28 k x1 x2 x3).bind fun y3 => 
cond (!y3) (
some 0) (
(F52 k x1 x2 x3).bind fun y4 => 
some (IntKind.wrap .i64 ((IntKind.wrap .i64 (x3 - 3)) * y4)))
def A24 : CTpl := ⟨[.ag [.i .i64, .i .i64, .i .i64]], []⟩
def h24 : List HTy := [.ti, .ti, .ti]
def R24 : List RTpl := [⟨.i .i64, [], [.ti]⟩]
def n24 : An := .sq (.nd) (.sq (.nd) (.sq (.mk [] [0, 1, 3, 0, 8, 31, 63]) (.nd)))
theorem e24 (k : Nat) (y : Tup h24) : exec (P := Tryd.prog) D (lk rowsL) [C28 k, C52 k] k (bodyOf Tryd.f24) n24 (fnE Tryd.f24 A24 [] (inOf A24 (ofTup h24 y))) (fnSt [] (inOf A24 (ofTup h24 y))) (leafR D (fnE Tryd.f24 A24 [] (inOf A24 (ofTup h24 y))) Tryd.f24.results.toList (R24.map (·.h)) R24) = F24 k y.1 y.2.1 y.2.2 := by kernel_rfl
noncomputable def C24 (k : Nat) : Con Tryd.prog := ⟨24, Tryd.f24, Tryd.func24, by kernel_rfl, by kernel_rfl, A24, h24, [], R24, fun y => F24 k y.1 y.2.1 y.2.2, fun y r h => con_ok good mixed (c := bodyOf Tryd.f24) Tryd.func24 (by kernel_rfl) n24 y ((e24 k y).trans h)⟩
noncomputable def F73 (k : Nat) (x1 : ByteArray) (x2 : Int) : Option (Int × Bool) :=
((cond (decide (x2 < 0)) (
some true) (
cond (decide ((x1.size : Int) < x2)) (
some true) (
some (decide ((IntKind.wrap .i64 ((x1.size : Int) - x2)) < 4)))) : Option Bool)).bind fun y2 => 
cond y2 (
some (0, false)) (
grd (bnds (x1.size : Int) x2 (x1.size : Int)) <|
grd (decide (0 ≤ (0 : Int) ∧ (0 : Int) < ((x1.extract x2.toNat ((x1.size : Int).toNat)).size : Int))) <|
grd (decide (0 ≤ (1 : Int) ∧ (1 : Int) < ((x1.extract x2.toNat ((x1.size : Int).toNat)).size : Int))) <|
grd (decide (0 ≤ (2 : Int) ∧ (2 : Int) < ((x1.extract x2.toNat ((x1.size : Int).toNat)).size : Int))) <|
grd (decide (0 ≤ (3 : Int) ∧ (3 : Int) < ((x1.extract x2.toNat ((x1.size : Int).toNat)).size : Int))) <|
some ((bits .or .u32 (bits .or .u32 (bits .or .u32 (IntKind.wrap .u32 (bt (x1.extract x2.toNat ((x1.size : Int).toNat)) 0)) (IntKind.wrap .u32 ((IntKind.wrap .u32 (bt (x1.extract x2.toNat ((x1.size : Int).toNat)) 1)) * 2 ^ 8))) (IntKind.wrap .u32 ((IntKind.wrap .u32 (bt (x1.extract x2.toNat ((x1.size : Int).toNat)) 2)) * 2 ^ 16))) (IntKind.wrap .u32 ((IntKind.wrap .u32 (bt (x1.extract x2.toNat ((x1.size : Int).toNat)) 3)) * 2 ^ 24))), true))
def A73 : CTpl := ⟨[.s, .i .i64], []⟩
def h73 : List HTy := [.ts, .ti]
def R73 : List RTpl := [⟨.tp [.i .u32, .b], [], [.ti, .tb]⟩]
def n73 : An := .sq (.nd) (.sq (.jn [0, 1] [] [(0, ⟨[(20, .b)], []⟩)] [[.tb]] (.nd) (.nd)) (.sq (.nd) (.sq (.mk [] [0, 1, 3, 0, 8, 24, 56, 127, 0, 256, 768, 1792, 4095, 0, 8192, 24576, 57344, 131071, 262143, 524287]) (.nd))))
theorem e73 (k : Nat) (y : Tup h73) : exec (P := Tryd.prog) D (lk rowsL) [] k (bodyOf Tryd.f73) n73 (fnE Tryd.f73 A73 [] (inOf A73 (ofTup h73 y))) (fnSt [] (inOf A73 (ofTup h73 y))) (leafR D (fnE Tryd.f73 A73 [] (inOf A73 (ofTup h73 y))) Tryd.f73.results.toList (R73.map (·.h)) R73) = F73 k y.1 y.2 := by kernel_rfl
noncomputable def C73 (k : Nat) : Con Tryd.prog := ⟨73, Tryd.f73, Tryd.func73, by kernel_rfl, by kernel_rfl, A73, h73, [], R73, fun y => F73 k y.1 y.2, fun y r h => con_ok good mixed (c := bodyOf Tryd.f73) Tryd.func73 (by kernel_rfl) n73 y ((e73 k y).trans h)⟩
noncomputable def F62 (k : Nat) (x1 : ByteArray) (x2 : Int) : Option Int :=
(F73 k x1 (IntKind.wrap .i64 (4 * x2))).bind fun y2 => 
some y2.1
def A62 : CTpl := ⟨[.s, .i .i64], []⟩
def h62 : List HTy := [.ts, .ti]
def R62 : List RTpl := [⟨.i .u32, [], [.ti]⟩]
def n62 : An := .nd
theorem e62 (k : Nat) (y : Tup h62) : exec (P := Tryd.prog) D (lk rowsL) [C73 k] k (bodyOf Tryd.f62) n62 (fnE Tryd.f62 A62 [] (inOf A62 (ofTup h62 y))) (fnSt [] (inOf A62 (ofTup h62 y))) (leafR D (fnE Tryd.f62 A62 [] (inOf A62 (ofTup h62 y))) Tryd.f62.results.toList (R62.map (·.h)) R62) = F62 k y.1 y.2 := by kernel_rfl
noncomputable def C62 (k : Nat) : Con Tryd.prog := ⟨62, Tryd.f62, Tryd.func62, by kernel_rfl, by kernel_rfl, A62, h62, [], R62, fun y => F62 k y.1 y.2, fun y r h => con_ok good mixed (c := bodyOf Tryd.f62) Tryd.func62 (by kernel_rfl) n62 y ((e62 k y).trans h)⟩
noncomputable def F38 (k : Nat) (x1 : Int) (x2 : Int) (x3 : Int) (x4 : ByteArray) : Option (Int ⊕ (Int × Int × Int) ⊕ (Int × Int × ByteArray × Int) ⊕ (Int × Int × Int × Int × Int × Int × Int) ⊕ (Int × Int × Int × Int)) :=
((cond (decide (x2 < 1)) (
some true) (
some (decide (2147483647 < x2))) : Option Bool)).bind fun y2 => 
cond y2 (
some (.inl 2)) (
((((cond (x1 == 1) (
some (x4.toList == (⟨#[]⟩ : ByteArray).toList)) (
some false) : Option Bool)).bind fun y18 => 
cond y18 (
some (.inr (.inl (x2, x3)))) (
((cond (x1 == 2) (
some (!(x4.toList == (⟨#[]⟩ : ByteArray).toList))) (
some false) : Option Bool)).bind fun y19 => 
cond y19 (
some (.inr (.inr (.inl (x2, x3, x4))))) (
((cond (x1 == 3) (
cond ((x4.size : Int) == 16) (
some (x3 != 0)) (
some false)) (
some false) : Option Bool)).bind fun y20 => 
cond y20 (
(F62 k x4 0).bind fun y21 => 
(F62 k x4 1).bind fun y22 => 
(F62 k x4 2).bind fun y23 => 
(F62 k x4 3).bind fun y24 => 
((cond (decide (y21 < x2)) (
cond (decide (1 ≤ y22)) (
cond (decide (y22 ≤ x2)) (
some (y24 != 0)) (
some false)) (
some false)) (
some false) : Option Bool)).bind fun y25 => 
cond y25 (
some (.inr (.inr (.inr (.inl (x2, x3, y21, y22, y23, y24)))))) (
some (.inl ()))) (
((cond (x1 == 4) (
some ((x4.size : Int) == 4)) (
some false) : Option Bool)).bind fun y26 => 
cond y26 (
(F62 k x4 0).bind fun y27 => 
cond (decide (y27 ≤ x2)) (
some (.inr (.inr (.inr (.inr (x2, x3, y27)))))) (
some (.inl ()))) (
some (.inl ()))))) : Option (Unit ⊕ (Int × Int) ⊕ (Int × Int × ByteArray) ⊕ (Int × Int × Int × Int × Int × Int) ⊕ (Int × Int × Int)))).bind fun y28 => 
sel (fun y29 =>
some (.inl 2)) (fun y30 =>
sel (fun y31 =>
some (.inr (.inl (y31.1, y31.2, 0)))) (fun y32 =>
sel (fun y33 =>
some (.inr (.inr (.inl (y33.1, y33.2.1, y33.2.2, 0))))) (fun y34 =>
sel (fun y35 =>
some (.inr (.inr (.inr (.inl (y35.1, y35.2.1, y35.2.2.1, y35.2.2.2.1, y35.2.2.2.2.1, y35.2.2.2.2.2, 0)))))) (fun y36 =>
some (.inr (.inr (.inr (.inr (y36.1, y36.2.1, y36.2.2, 0)))))) y34) y32) y30) y28)
def A38 : CTpl := ⟨[.ag [.i .i64, .i .u32, .i .u32, .s]], []⟩
def h38 : List HTy := [.ti, .ti, .ti, .ts]
def R38 : List RTpl := [⟨.tp [.c (.nilIface), .i .i64], [], [.ti]⟩, ⟨.tp [.ifc 98 (.ag [.i .u32, .i .u32]), .i .i64], [], [.ti, .ti, .ti]⟩, ⟨.tp [.ifc 63 (.ag [.i .u32, .i .u32, .s]), .i .i64], [], [.ti, .ti, .ts, .ti]⟩, ⟨.tp [.ifc 66 (.ag [.i .u32, .i .u32, .i .u32, .i .u32, .i .u32, .i .u32]), .i .i64], [], [.ti, .ti, .ti, .ti, .ti, .ti, .ti]⟩, ⟨.tp [.ifc 100 (.ag [.i .u32, .i .u32, .i .u32]), .i .i64], [], [.ti, .ti, .ti, .ti]⟩]
def n38 : An := .sq (.nd) (.sq (.jn [1] [1] [(0, ⟨[(14, .b)], []⟩)] [[.tb]] (.nd) (.nd)) (.jn [] [] [(0, ⟨[], []⟩), (1, ⟨[(2, .ifc 98 (.ag [.i .u32, .i .u32])), (3, .li .i64 0)], []⟩), (1, ⟨[(2, .ifc 63 (.ag [.i .u32, .i .u32, .s])), (3, .li .i64 0)], []⟩), (1, ⟨[(2, .ifc 66 (.ag [.i .u32, .i .u32, .i .u32, .i .u32, .i .u32, .i .u32])), (3, .li .i64 0)], []⟩), (1, ⟨[(2, .ifc 100 (.ag [.i .u32, .i .u32, .i .u32])), (3, .li .i64 0)], []⟩)] [[], [.ti, .ti], [.ti, .ti, .ts], [.ti, .ti, .ti, .ti, .ti, .ti], [.ti, .ti, .ti]] (.sq (.nd) (.jn [1, 4] [1] [(0, ⟨[(17, .b)], []⟩)] [[.tb]] (.nd) (.sq (.nd) (.jn [1, 4] [1] [(0, ⟨[(31, .b)], []⟩)] [[.tb]] (.nd) (.sq (.nd) (.jn [1, 4] [1] [(0, ⟨[(46, .b)], []⟩)] [[.tb]] (.nd) (.sq (.sq (.mk [] [0, 1, 0, 4, 0, 16, 0, 112, 0, 496, 0, 2032, 4095, 0, 16383]) (.jn [5] [5] [(0, ⟨[(94, .b)], []⟩)] [[.tb]] (.nd) (.nd))) (.jn [1, 4] [1] [(0, ⟨[(97, .b)], []⟩)] [[.tb]] (.nd) (.sq (.sq (.mk [] [0, 1, 0, 4, 0, 16, 63, 0, 255]) (.nd)) (.nd)))))))))) (.nd)))
theorem e38 (k : Nat) (y : Tup h38) : exec (P := Tryd.prog) D (lk rowsL) [C62 k] k (bodyOf Tryd.f38) n38 (fnE Tryd.f38 A38 [] (inOf A38 (ofTup h38 y))) (fnSt [] (inOf A38 (ofTup h38 y))) (leafR D (fnE Tryd.f38 A38 [] (inOf A38 (ofTup h38 y))) Tryd.f38.results.toList (R38.map (·.h)) R38) = F38 k y.1 y.2.1 y.2.2.1 y.2.2.2 := by kernel_rfl
noncomputable def C38 (k : Nat) : Con Tryd.prog := ⟨38, Tryd.f38, Tryd.func38, by kernel_rfl, by kernel_rfl, A38, h38, [], R38, fun y => F38 k y.1 y.2.1 y.2.2.1 y.2.2.2, fun y r h => con_ok good mixed (c := bodyOf Tryd.f38) Tryd.func38 (by kernel_rfl) n38 y ((e38 k y).trans h)⟩
noncomputable def F30 (k : Nat) (x1 : Int) (x2 : Int) (x3 : ByteArray) : Option (Int × Int × Int × ByteArray × Int) :=
(((F38 k 2 x1 x2 x3).bind fun y20 => 
sel (fun y21 =>
some y21) (fun y22 =>
sel (fun y23 =>
some y23.2.2) (fun y24 =>
sel (fun y25 =>
some y25.2.2.2) (fun y26 =>
sel (fun y27 =>
some y27.2.2.2.2.2.2) (fun y28 =>
some y28.2.2.2) y26) y24) y22) y20 : Option Int)).bind fun y29 => 
cond (y29 != 0) (
some (0, 0, 0, ByteArray.empty, y29)) (
some (2, x1, x2, x3, 0))
def A30 : CTpl := ⟨[.ifc 63 (.ag [.i .u32, .i .u32, .s])], []⟩
def h30 : List HTy := [.ti, .ti, .ts]
def R30 : List RTpl := [⟨.tp [.ag [.i .i64, .i .u32, .i .u32, .s], .i .i64], [], [.ti, .ti, .ti, .ts, .ti]⟩]
def n30 : An := .sq (.nd) (.sq (.nd) (.sq (.nd) (.sq (.jn [2, 4] [2, 4] [(0, ⟨[(10, .i .i64)], []⟩)] [[.ti]] (.nd) (.nd)) (.nd))))
theorem e30 (k : Nat) (y : Tup h30) : exec (P := Tryd.prog) D (lk rowsL) [C38 k] k (bodyOf Tryd.f30) n30 (fnE Tryd.f30 A30 [] (inOf A30 (ofTup h30 y))) (fnSt [] (inOf A30 (ofTup h30 y))) (leafR D (fnE Tryd.f30 A30 [] (inOf A30 (ofTup h30 y))) Tryd.f30.results.toList (R30.map (·.h)) R30) = F30 k y.1 y.2.1 y.2.2 := by kernel_rfl
noncomputable def C30 (k : Nat) : Con Tryd.prog := ⟨30, Tryd.f30, Tryd.func30, by kernel_rfl, by kernel_rfl, A30, h30, [], R30, fun y => F30 k y.1 y.2.1 y.2.2, fun y r h => con_ok good mixed (c := bodyOf Tryd.f30) Tryd.func30 (by kernel_rfl) n30 y ((e30 k y).trans h)⟩
noncomputable def L59_8 (k : Nat) (z6 : (Int × Int)) : Option ((Int × Int) ⊕ Int) :=
cond (decide (z6.2 < 8)) (
((cond ((bits .and .u32 z6.1 1) == 1) (
some (bits .xor .u32 (z6.1.fdiv (2 ^ 1)) 3988292384)) (
some (z6.1.fdiv (2 ^ 1))) : Option Int)).bind fun y7 => 
some (.inl (y7, (IntKind.wrap .i64 (z6.2 + 1))))) (
some (.inr z6.1))
noncomputable def F59 (k : Nat) (x1 : Int) (x2 : Int) : Option Int :=
(loopN (L59_8 k) k ((bits .xor .u32 x1 (IntKind.wrap .u32 x2)), 0)).bind fun y8 => 
some y8
def A59 : CTpl := ⟨[.i .u32, .i .u8], []⟩
def h59 : List HTy := [.ti, .ti]
def R59 : List RTpl := [⟨.i .u32, [], [.ti]⟩]
def n59 : An := .sq (.nd) (.sq (.nd) (.sq (.sq (.nd) (.lp [] [] ⟨[(0, .i .u32), (10, .i .i64)], []⟩ [.ti, .ti] [(2, ⟨[(0, .i .u32)], []⟩)] [[.ti]] (.sq (.nd) (.sq (.nd) (.jn [10] [] [(0, ⟨[(0, .i .u32)], []⟩)] [[.ti]] (.nd) (.nd)))))) (.nd)))
theorem e59 (k : Nat) (y : Tup h59) : exec (P := Tryd.prog) D (lk rowsL) [] k (bodyOf Tryd.f59) n59 (fnE Tryd.f59 A59 [] (inOf A59 (ofTup h59 y))) (fnSt [] (inOf A59 (ofTup h59 y))) (leafR D (fnE Tryd.f59 A59 [] (inOf A59 (ofTup h59 y))) Tryd.f59.results.toList (R59.map (·.h)) R59) = F59 k y.1 y.2 := by kernel_rfl
noncomputable def C59 (k : Nat) : Con Tryd.prog := ⟨59, Tryd.f59, Tryd.func59, by kernel_rfl, by kernel_rfl, A59, h59, [], R59, fun y => F59 k y.1 y.2, fun y r h => con_ok good mixed (c := bodyOf Tryd.f59) Tryd.func59 (by kernel_rfl) n59 y ((e59 k y).trans h)⟩
noncomputable def L31_22 (k : Nat) (a38 : ByteArray) (z39 : (Int × Int)) : Option ((Int × Int) ⊕ Int) :=
cond (decide (z39.2 < (a38.size : Int))) (
grd (decide (0 ≤ z39.2 ∧ z39.2 < (a38.size : Int))) <|
(F59 k z39.1 (bt a38 z39.2)).bind fun y40 => 
some (.inl (y40, (IntKind.wrap .i64 (z39.2 + 1))))) (
some (.inr z39.1))
noncomputable def L31_8 (k : Nat) (x1 : (List ByteArray)) (z36 : (Int × Int)) : Option ((Int × Int) ⊕ Int) :=
cond (decide (z36.2 < (x1.length : Int))) (
(ix x1 z36.2).bind fun a37 =>
(x1[z36.2.toNat]?).bind fun a38 =>
(loopN (L31_22 k a38) k (z36.1, 0)).bind fun y41 => 
some (.inl (y41, (IntKind.wrap .i64 (z36.2 + 1))))) (
some (.inr z36.1))
noncomputable def F31 (k : Nat) (x1 : (List ByteArray)) : Option Int :=
(loopN (L31_8 k x1) k (4294967295, 0)).bind fun y42 => 
some (bits .xor .u32 4294967295 y42)
def A31 : CTpl := ⟨[.sl .u 1000000], [(1000000, .ar 9 (.str .nil))]⟩
def h31 : List HTy := [.tl (.str .nil)]
def R31 : List RTpl := [⟨.i .u32, [], [.ti]⟩]
def n31 : An := .sq (.nd) (.sq (.nd) (.sq (.sq (.nd) (.lp [7, 8] [] ⟨[(3, .i .u32), (9, .i .i64)], []⟩ [.ti, .ti] [(2, ⟨[(3, .i .u32)], []⟩)] [[.ti]] (.sq (.nd) (.sq (.nd) (.sq (.sq (.nd) (.sq (.nd) (.lp [5, 9, 14] [] ⟨[(3, .i .u32), (15, .i .i64)], []⟩ [.ti, .ti] [(4, ⟨[(3, .i .u32)], []⟩)] [[.ti]] (.nd)))) (.nd)))))) (.nd)))
theorem e31 (k : Nat) (y : Tup h31) : exec (P := Tryd.prog) D (lk rowsL) [C59 k] k (bodyOf Tryd.f31) n31 (fnE Tryd.f31 A31 [1000000] (inOf A31 (ofTup h31 y))) (fnSt [1000000] (inOf A31 (ofTup h31 y))) (leafR D (fnE Tryd.f31 A31 [1000000] (inOf A31 (ofTup h31 y))) Tryd.f31.results.toList (R31.map (·.h)) R31) = F31 k y := by kernel_rfl
noncomputable def C31 (k : Nat) : Con Tryd.prog := ⟨31, Tryd.f31, Tryd.func31, by kernel_rfl, by kernel_rfl, A31, h31, [1000000], R31, fun y => F31 k y, fun y r h => con_ok good mixed (c := bodyOf Tryd.f31) Tryd.func31 (by kernel_rfl) n31 y ((e31 k y).trans h)⟩
noncomputable def F58 (k : Nat) (x1 : Int) : Option ByteArray :=
some (strOfNums [(IntKind.wrap .u8 x1), (IntKind.wrap .u8 (x1.fdiv (2 ^ 8))), (IntKind.wrap .u8 (x1.fdiv (2 ^ 16))), (IntKind.wrap .u8 (x1.fdiv (2 ^ 24)))])
def A58 : CTpl := ⟨[.i .u32], []⟩
def h58 : List HTy := [.ti]
def R58 : List RTpl := [⟨.s, [], [.ts]⟩]
def n58 : An := .nd
theorem e58 (k : Nat) (y : Tup h58) : exec (P := Tryd.prog) D (lk rowsL) [] k (bodyOf Tryd.f58) n58 (fnE Tryd.f58 A58 [] (inOf A58 (ofTup h58 y))) (fnSt [] (inOf A58 (ofTup h58 y))) (leafR D (fnE Tryd.f58 A58 [] (inOf A58 (ofTup h58 y))) Tryd.f58.results.toList (R58.map (·.h)) R58) = F58 k y := by kernel_rfl
noncomputable def C58 (k : Nat) : Con Tryd.prog := ⟨58, Tryd.f58, Tryd.func58, by kernel_rfl, by kernel_rfl, A58, h58, [], R58, fun y => F58 k y, fun y r h => con_ok good mixed (c := bodyOf Tryd.f58) Tryd.func58 (by kernel_rfl) n58 y ((e58 k y).trans h)⟩
noncomputable def F30_1 (k : Nat) (x1 : Int) (x2 : Int) (x3 : Int) (x4 : Int) (x5 : Int) (x6 : Int) : Option (Int × Int × Int × ByteArray × Int) :=
(F58 k x3).bind fun y5 => 
(F58 k x4).bind fun y6 => 
grd (decide (y5.size + y6.size ≤ 9223372036854775807)) <|
(F58 k x5).bind fun y7 => 
grd (decide ((y5 ++ y6).size + y7.size ≤ 9223372036854775807)) <|
(F58 k x6).bind fun y8 => 
grd (decide (((y5 ++ y6) ++ y7).size + y8.size ≤ 9223372036854775807)) <|
(((F38 k 3 x1 x2 (((y5 ++ y6) ++ y7) ++ y8)).bind fun y28 => 
sel (fun y29 =>
some y29) (fun y30 =>
sel (fun y31 =>
some y31.2.2) (fun y32 =>
sel (fun y33 =>
some y33.2.2.2) (fun y34 =>
sel (fun y35 =>
some y35.2.2.2.2.2.2) (fun y36 =>
some y36.2.2.2) y34) y32) y30) y28 : Option Int)).bind fun y37 => 
cond (y37 != 0) (
some (0, 0, 0, ByteArray.empty, y37)) (
some (3, x1, x2, (((y5 ++ y6) ++ y7) ++ y8), 0))
def A30_1 : CTpl := ⟨[.ifc 66 (.ag [.i .u32, .i .u32, .i .u32, .i .u32, .i .u32, .i .u32])], []⟩
def h30_1 : List HTy := [.ti, .ti, .ti, .ti, .ti, .ti]
def R30_1 : List RTpl := [⟨.tp [.ag [.i .i64, .i .u32, .i .u32, .s], .i .i64], [], [.ti, .ti, .ti, .ts, .ti]⟩]
def n30_1 : An := .sq (.nd) (.sq (.nd) (.sq (.sq (.nd) (.sq (.nd) (.sq (.nd) (.sq (.nd) (.sq (.nd) (.sq (.nd) (.sq (.sq (.nd) (.mk [] [0, 1, 0, 4, 0, 16, 48, 0, 128, 496, 1008, 0, 2048, 7152, 16368, 0, 32768, 113648, 262128, 524287, 1048575])) (.nd)))))))) (.sq (.jn [2, 4] [2, 4] [(0, ⟨[(10, .i .i64)], []⟩)] [[.ti]] (.nd) (.nd)) (.nd))))
theorem e30_1 (k : Nat) (y : Tup h30_1) : exec (P := Tryd.prog) D (lk rowsL) [C58 k, C38 k] k (bodyOf Tryd.f30) n30_1 (fnE Tryd.f30 A30_1 [] (inOf A30_1 (ofTup h30_1 y))) (fnSt [] (inOf A30_1 (ofTup h30_1 y))) (leafR D (fnE Tryd.f30 A30_1 [] (inOf A30_1 (ofTup h30_1 y))) Tryd.f30.results.toList (R30_1.map (·.h)) R30_1) = F30_1 k y.1 y.2.1 y.2.2.1 y.2.2.2.1 y.2.2.2.2.1 y.2.2.2.2.2 := by kernel_rfl
noncomputable def C30_1 (k : Nat) : Con Tryd.prog := ⟨30, Tryd.f30, Tryd.func30, by kernel_rfl, by kernel_rfl, A30_1, h30_1, [], R30_1, fun y => F30_1 k y.1 y.2.1 y.2.2.1 y.2.2.2.1 y.2.2.2.2.1 y.2.2.2.2.2, fun y r h => con_ok good mixed (c := bodyOf Tryd.f30) Tryd.func30 (by kernel_rfl) n30_1 y ((e30_1 k y).trans h)⟩
noncomputable def L13_39 (k : Nat) (x1 : Int) (x2 : Int) (x3 : Int) (x4 : Int) (y5 : (ByteArray × Int)) (z33 : (Int × (List (Int × Int × Int × ByteArray)))) : Option ((Int × (List (Int × Int × Int × ByteArray))) ⊕ (List (Int × Int × Int × ByteArray))) :=
cond (decide (z33.1 < (y5.1.size : Int))) (
(F25 k x1 x2 x3).bind fun y34 => 
grd (bnds (y5.1.size : Int) z33.1 (mn (IntKind.wrap .i64 (z33.1 + y34)) (y5.1.size : Int))) <|
(F30 k x4 (IntKind.wrap .u32 (z33.2.length : Int)) (y5.1.extract z33.1.toNat ((mn (IntKind.wrap .i64 (z33.1 + y34)) (y5.1.size : Int)).toNat))).bind fun y35 => 
grd (decide ((z33.2.length + [(y35.1, y35.2.1, y35.2.2.1, y35.2.2.2.1)].length) * 32 ≤ 140737488355328)) <|
(F25 k x1 x2 x3).bind fun y36 => 
some (.inl ((IntKind.wrap .i64 (z33.1 + y36)), (z33.2 ++ [(y35.1, y35.2.1, y35.2.2.1, y35.2.2.2.1)])))) (
some (.inr z33.2))
noncomputable def F13 (k : Nat) (x1 : Int) (x2 : Int) (x3 : Int) (x4 : Int) (x5 : Int) (x6 : Int) (x7 : (List (ByteArray × Bool × ByteArray))) : Option (Int ⊕ (Int × (List (Int × Int × Int × ByteArray)))) :=
(F28 k x1 x2 x3).bind fun y3 => 
cond (!y3) (
some (.inl 1)) (
(F29 k x7).bind fun y5 => 
cond (y5.2 != 0) (
some (.inl y5.2)) (
((cond (decide (2147483647 < x4)) (
some true) (
cond (decide (x4 ≤ x5)) (
some true) (
cond (decide (x6 < 1)) (
some true) (
some (decide (x4 < x6))))) : Option Bool)).bind fun y11 => 
cond y11 (
some (.inl 2)) (
(F23 k x1 x2 x3 (y5.1.size : Int)).bind fun y12 => 
(F24 k x1 x2 x3).bind fun y13 => 
cond (decide (y13 < y12)) (
some (.inl 14)) (
(loopN (L13_39 k x1 x2 x3 x4 y5) k (0, ([] : List (Int × Int × Int × ByteArray)))).bind fun y37 => 
(F31 k [y5.1]).bind fun y40 => 
(F30_1 k x4 (IntKind.wrap .u32 (y37.length : Int)) x5 x6 y40 (IntKind.wrap .u32 (y5.1.size : Int))).bind fun y41 => 
grd (decide ((y37.length + [(y41.1, y41.2.1, y41.2.2.1, y41.2.2.2.1)].length) * 32 ≤ 140737488355328)) <|
some (.inr (0, (y37 ++ [(y41.1, y41.2.1, y41.2.2.1, y41.2.2.2.1)])))))))
def A13 : CTpl := ⟨[.ag [.i .i64, .i .i64, .i .i64], .ag [.i .u32, .i .u32, .i .u32, .fz .u (.str (.bool (.str .nil)))]], []⟩
def h13 : List HTy := [.ti, .ti, .ti, .ti, .ti, .ti, .tl (.str (.bool (.str .nil)))]
def R13 : List RTpl := [⟨.tp [.c (.slice none 0 0), .i .i64], [], [.ti]⟩, ⟨.tp [.sl .u 500000, .i .i64], [(500000, .ar 43 (.int .i64 (.int .u32 (.int .u32 (.str .nil)))))], [.ti, .tl (.int .i64 (.int .u32 (.int .u32 (.str .nil))))]⟩]
def n13 : An := .sq (.nd) (.sq (.nd) (.sq (.nd) (.sq (.sq (.nd) (.sq (.nd) (.jn [2, 3, 6] [2, 3] [(0, ⟨[(28, .b)], []⟩)] [[.tb]] (.nd) (.sq (.nd) (.sq (.mk [] [0, 0, 2, 7, 0, 31, 63, 127]) (.nd)))))) (.sq (.nd) (.sq (.sq (.nd) (.lp [2, 3, 6] [2, 3] ⟨[(8, .sl .n 301950), (9, .i .i64)], [(301950, .ar 43 (.int .i64 (.int .u32 (.int .u32 (.str .nil)))))]⟩ [.ti, .tl (.int .i64 (.int .u32 (.int .u32 (.str .nil))))] [(3, ⟨[(8, .sl .n 301975)], [(301975, .ar 43 (.int .i64 (.int .u32 (.int .u32 (.str .nil)))))]⟩)] [[.tl (.int .i64 (.int .u32 (.int .u32 (.str .nil))))]] (.nd))) (.sq (.mk [] [0, 1, 0, 4, 12, 0, 32, 0, 128, 0, 512, 1536, 0, 4096, 12288, 32767, 65535, 131071, 262143, 524287, 524287, 0, 3145727, 8388607]) (.nd)))))))
theorem e13 (k : Nat) (hm : Mo.m = false) (y : Tup h13) : exec (P := Tryd.prog) D (lk rowsL) [C28 k, C29 k hm, C23 k, C24 k, C25 k, C30 k, C31 k, C30_1 k] k (bodyOf Tryd.f13) n13 (fnE Tryd.f13 A13 [] (inOf A13 (ofTup h13 y))) (fnSt [] (inOf A13 (ofTup h13 y))) (leafR D (fnE Tryd.f13 A13 [] (inOf A13 (ofTup h13 y))) Tryd.f13.results.toList (R13.map (·.h)) R13) = F13 k y.1 y.2.1 y.2.2.1 y.2.2.2.1 y.2.2.2.2.1 y.2.2.2.2.2.1 y.2.2.2.2.2.2 := by kernel_rfl
noncomputable def C13 (k : Nat) (hm : Mo.m = false) : Con Tryd.prog := ⟨13, Tryd.f13, Tryd.func13, by kernel_rfl, by kernel_rfl, A13, h13, [], R13, fun y => F13 k y.1 y.2.1 y.2.2.1 y.2.2.2.1 y.2.2.2.2.1 y.2.2.2.2.2.1 y.2.2.2.2.2.2, fun y r h => con_ok good mixed (c := bodyOf Tryd.f13) Tryd.func13 (by kernel_rfl) n13 y ((e13 k hm y).trans h)⟩
noncomputable def F32 (k : Nat) (x1 : Int) (x2 : Int) (x3 : Int) : Option Bool :=
cond (decide (32 ≤ x1)) (
cond (decide (x1 ≤ 128)) (
cond (decide (3 ≤ x2)) (
cond (decide (x2 ≤ 10)) (
cond (decide (4 ≤ x3)) (
some (decide (x3 ≤ 12))) (
some false)) (
some false)) (
some false)) (
some false)) (
some false)
def A32 : CTpl := ⟨[.ag [.i .i64, .i .i64, .i .i64]], []⟩
def h32 : List HTy := [.ti, .ti, .ti]
def R32 : List RTpl := [⟨.b, [], [.tb]⟩]
def n32 : An := .nd
theorem e32 (k : Nat) (y : Tup h32) : exec (P := Tryd.prog) D (lk rowsL) [] k (bodyOf Tryd.f32) n32 (fnE Tryd.f32 A32 [] (inOf A32 (ofTup h32 y))) (fnSt [] (inOf A32 (ofTup h32 y))) (leafR D (fnE Tryd.f32 A32 [] (inOf A32 (ofTup h32 y))) Tryd.f32.results.toList (R32.map (·.h)) R32) = F32 k y.1 y.2.1 y.2.2 := by kernel_rfl
noncomputable def C32 (k : Nat) : Con Tryd.prog := ⟨32, Tryd.f32, Tryd.func32, by kernel_rfl, by kernel_rfl, A32, h32, [], R32, fun y => F32 k y.1 y.2.1 y.2.2, fun y r h => con_ok good mixed (c := bodyOf Tryd.f32) Tryd.func32 (by kernel_rfl) n32 y ((e32 k y).trans h)⟩
noncomputable def F77 (k : Nat) (x1 : Int) (x2 : Int) : Option Bool :=
cond (decide (33 ≤ x1)) (
cond (decide (127 ≤ x1)) (
cond (!(decide (x1 ≤ 160))) (
cond (x1 == 65533) (
some (!(x2 == 1))) (
some true)) (
some false)) (
cond (x1 == 65533) (
some (!(x2 == 1))) (
some true))) (
some false)
def A77 : CTpl := ⟨[.i .i64, .i .i64], []⟩
def h77 : List HTy := [.ti, .ti]
def R77 : List RTpl := [⟨.b, [], [.tb]⟩]
def n77 : An := .nd
theorem e77 (k : Nat) (y : Tup h77) : exec (P := Tryd.prog) D (lk rowsL) [] k (bodyOf Tryd.f77) n77 (fnE Tryd.f77 A77 [] (inOf A77 (ofTup h77 y))) (fnSt [] (inOf A77 (ofTup h77 y))) (leafR D (fnE Tryd.f77 A77 [] (inOf A77 (ofTup h77 y))) Tryd.f77.results.toList (R77.map (·.h)) R77) = F77 k y.1 y.2 := by kernel_rfl
noncomputable def C77 (k : Nat) : Con Tryd.prog := ⟨77, Tryd.f77, Tryd.func77, by kernel_rfl, by kernel_rfl, A77, h77, [], R77, fun y => F77 k y.1 y.2, fun y r h => con_ok good mixed (c := bodyOf Tryd.f77) Tryd.func77 (by kernel_rfl) n77 y ((e77 k y).trans h)⟩
noncomputable def L68_8 (k : Nat) (y2 : ((List Int) × (List Int))) (z42 : Int) : Option (Int ⊕ (Unit ⊕ Unit)) :=
cond (decide (z42 < (y2.1.length : Int))) (
(ix y2.1 z42).bind fun a43 =>
(y2.1[z42.toNat]?).bind fun a44 =>
(ix y2.2 z42).bind fun a45 =>
(y2.2[z42.toNat]?).bind fun a46 =>
(F77 k a44 a46).bind fun y47 => 
cond (!y47) (
some (.inr (.inl ()))) (
some (.inl (IntKind.wrap .i64 (z42 + 1))))) (
some (.inr (.inr ())))
noncomputable def F68 (k : Nat) (x1 : ByteArray) : Option Bool :=
(F76 k x1).bind fun y2 => 
(loopN (L68_8 k y2) k 0).bind fun y48 => 
sel (fun y49 =>
some false) (fun y50 =>
cond (decide (1 ≤ (y2.1.length : Int))) (
some (decide ((y2.1.length : Int) ≤ 12))) (
some false)) y48
def A68 : CTpl := ⟨[.s], []⟩
def h68 : List HTy := [.ts]
def R68 : List RTpl := [⟨.b, [], [.tb]⟩]
def n68 : An := .sq (.nd) (.sq (.nd) (.sq (.sq (.nd) (.lp [3, 4] [400800, 400801] ⟨[(5, .i .i64)], []⟩ [.ti] [(1, ⟨[(2, .lb false)], []⟩), (2, ⟨[], []⟩)] [[], []] (.sq (.nd) (.sq (.sq (.mk [] [0, 0, 3, 7, 0, 0, 48, 112, 255, 511]) (.nd)) (.nd))))) (.nd)))
theorem e68 (k : Nat) (y : Tup h68) : exec (P := Tryd.prog) D (lk rowsL) [C76 k, C77 k] k (bodyOf Tryd.f68) n68 (fnE Tryd.f68 A68 [] (inOf A68 (ofTup h68 y))) (fnSt [] (inOf A68 (ofTup h68 y))) (leafR D (fnE Tryd.f68 A68 [] (inOf A68 (ofTup h68 y))) Tryd.f68.results.toList (R68.map (·.h)) R68) = F68 k y := by kernel_rfl
noncomputable def C68 (k : Nat) : Con Tryd.prog := ⟨68, Tryd.f68, Tryd.func68, by kernel_rfl, by kernel_rfl, A68, h68, [], R68, fun y => F68 k y, fun y r h => con_ok good mixed (c := bodyOf Tryd.f68) Tryd.func68 (by kernel_rfl) n68 y ((e68 k y).trans h)⟩
noncomputable def L49_14 (k : Nat) (x1 : (List (ByteArray × Bool × ByteArray))) (z75 : Int) : Option (Int ⊕ (Int ⊕ Unit)) :=
cond (decide (z75 < (x1.length : Int))) (
(ix x1 z75).bind fun a76 =>
(F68 k a76.1).bind fun y77 => 
cond (!y77) (
some (.inr (.inl 10))) (
(ix x1 z75).bind fun a78 =>
cond (decide (48 < (a78.2.2.size : Int))) (
some (.inr (.inl 11))) (
(((ix x1 z75).bind fun a79 =>
cond a79.2.1 (
(ix x1 z75).bind fun a80 =>
cond (!(a80.2.2.toList == (⟨#[]⟩ : ByteArray).toList)) (
some true) (
cond (decide (0 < z75)) (
(ix x1 (IntKind.wrap .i64 (z75 - 1))).bind fun a81 =>
(ix x1 z75).bind fun a82 =>
(F69 k a81.1 a82.1).bind fun y83 => 
some (!y83)) (
some false))) (
cond (decide (0 < z75)) (
(ix x1 (IntKind.wrap .i64 (z75 - 1))).bind fun a84 =>
(ix x1 z75).bind fun a85 =>
(F69 k a84.1 a85.1).bind fun y86 => 
some (!y86)) (
some false)) : Option Bool)).bind fun y87 => 
cond y87 (
some (.inr (.inl 2))) (
some (.inl (IntKind.wrap .i64 (z75 + 1))))))) (
some (.inr (.inr ())))
noncomputable def F49 (k : Nat) (x1 : (List (ByteArray × Bool × ByteArray))) : Option Int :=
((cond (decide ((x1.length : Int) < 1)) (
some true) (
some (decide (8 < (x1.length : Int)))) : Option Bool)).bind fun y2 => 
cond y2 (
some 12) (
(loopN (L49_14 k x1) k 0).bind fun y88 => 
sel (fun y89 =>
some y89) (fun y90 =>
some 0) y88)
def A49 : CTpl := ⟨[.fz .u (.str (.bool (.str .nil)))], []⟩
def h49 : List HTy := [.tl (.str (.bool (.str .nil)))]
def R49 : List RTpl := [⟨.i .i64, [], [.ti]⟩]
def n49 : An := .sq (.nd) (.sq (.jn [0] [] [(0, ⟨[(11, .b)], []⟩)] [[.tb]] (.nd) (.nd)) (.sq (.sq (.nd) (.lp [0] [] ⟨[(3, .i .i64)], []⟩ [.ti] [(1, ⟨[(2, .i .i64)], []⟩), (2, ⟨[], []⟩)] [[.ti], []] (.sq (.nd) (.sq (.sq (.nd) (.sq (.nd) (.jn [3] [] [(0, ⟨[(63, .b)], []⟩)] [[.tb]] (.mk [] [0, 0, 3, 7, 15, 31, 63, 63, 255, 511, 1023, 2047, 4095, 8191, 16383, 32767, 65535, 131071, 131071, 393215, 1048575, 2097151, 4194303, 131071, 131071, 25296895, 58851327, 125960191, 268435455, 536870911, 1073741823, 2147483647]) (.nd)))) (.nd))))) (.nd)))
theorem e49 (k : Nat) (y : Tup h49) : exec (P := Tryd.prog) D (lk rowsL) [C68 k, C69 k] k (bodyOf Tryd.f49) n49 (fnE Tryd.f49 A49 [] (inOf A49 (ofTup h49 y))) (fnSt [] (inOf A49 (ofTup h49 y))) (leafR D (fnE Tryd.f49 A49 [] (inOf A49 (ofTup h49 y))) Tryd.f49.results.toList (R49.map (·.h)) R49) = F49 k y := by kernel_rfl
noncomputable def C49 (k : Nat) : Con Tryd.prog := ⟨49, Tryd.f49, Tryd.func49, by kernel_rfl, by kernel_rfl, A49, h49, [], R49, fun y => F49 k y, fun y r h => con_ok good mixed (c := bodyOf Tryd.f49) Tryd.func49 (by kernel_rfl) n49 y ((e49 k y).trans h)⟩
noncomputable def L50_6 (k : Nat) (z3 : (Int × (List Int))) : Option ((Int × (List Int)) ⊕ (Int × (List Int))) :=
cond (decide (128 ≤ z3.1)) (
grd (decide ((z3.2.length + [(IntKind.wrap .u8 ((IntKind.wrap .u8 (z3.1.tmod 128)) + 128))].length) * 1 ≤ 140737488355328)) <|
some (.inl ((IntKind.wrap .u32 (z3.1.tdiv 128)), (z3.2 ++ [(IntKind.wrap .u8 ((IntKind.wrap .u8 (z3.1.tmod 128)) + 128))])))) (
some (.inr (z3.1, z3.2)))
noncomputable def F50 (k : Nat) (x1 : Int) : Option ByteArray :=
(loopN (L50_6 k) k (x1, ([] : List Int))).bind fun y4 => 
grd (decide ((y4.2.length + [(IntKind.wrap .u8 y4.1)].length) * 1 ≤ 140737488355328)) <|
some (strOfNums (y4.2 ++ [(IntKind.wrap .u8 y4.1)]))
def A50 : CTpl := ⟨[.i .u32], []⟩
def h50 : List HTy := [.ti]
def R50 : List RTpl := [⟨.s, [], [.ts]⟩]
def n50 : An := .sq (.nd) (.sq (.nd) (.sq (.lp [] [] ⟨[(0, .i .u32), (3, .sl .n 300300)], [(300300, .ar 5 (.int .u8 .nil))]⟩ [.ti, .tl (.int .u8 .nil)] [(2, ⟨[(0, .i .u32), (3, .sl .n 300325)], [(300325, .ar 5 (.int .u8 .nil))]⟩)] [[.ti, .tl (.int .u8 .nil)]] (.nd)) (.nd)))
theorem e50 (k : Nat) (y : Tup h50) : exec (P := Tryd.prog) D (lk rowsL) [] k (bodyOf Tryd.f50) n50 (fnE Tryd.f50 A50 [] (inOf A50 (ofTup h50 y))) (fnSt [] (inOf A50 (ofTup h50 y))) (leafR D (fnE Tryd.f50 A50 [] (inOf A50 (ofTup h50 y))) Tryd.f50.results.toList (R50.map (·.h)) R50) = F50 k y := by kernel_rfl
noncomputable def C50 (k : Nat) : Con Tryd.prog := ⟨50, Tryd.f50, Tryd.func50, by kernel_rfl, by kernel_rfl, A50, h50, [], R50, fun y => F50 k y, fun y r h => con_ok good mixed (c := bodyOf Tryd.f50) Tryd.func50 (by kernel_rfl) n50 y ((e50 k y).trans h)⟩
noncomputable def F51 (k : Nat) (x1 : ByteArray) : Option ByteArray :=
(F50 k (IntKind.wrap .u32 (x1.size : Int))).bind fun y1 => 
grd (decide (y1.size + x1.size ≤ 9223372036854775807)) <|
some (y1 ++ x1)
def A51 : CTpl := ⟨[.s], []⟩
def h51 : List HTy := [.ts]
def R51 : List RTpl := [⟨.s, [], [.ts]⟩]
def n51 : An := .nd
theorem e51 (k : Nat) (y : Tup h51) : exec (P := Tryd.prog) D (lk rowsL) [C50 k] k (bodyOf Tryd.f51) n51 (fnE Tryd.f51 A51 [] (inOf A51 (ofTup h51 y))) (fnSt [] (inOf A51 (ofTup h51 y))) (leafR D (fnE Tryd.f51 A51 [] (inOf A51 (ofTup h51 y))) Tryd.f51.results.toList (R51.map (·.h)) R51) = F51 k y := by kernel_rfl
noncomputable def C51 (k : Nat) : Con Tryd.prog := ⟨51, Tryd.f51, Tryd.func51, by kernel_rfl, by kernel_rfl, A51, h51, [], R51, fun y => F51 k y, fun y r h => con_ok good mixed (c := bodyOf Tryd.f51) Tryd.func51 (by kernel_rfl) n51 y ((e51 k y).trans h)⟩
noncomputable def L22_18 (k : Nat) (x1 : (List (ByteArray × Bool × ByteArray))) (z46 : (ByteArray × Int)) : Option ((ByteArray × Int) ⊕ ByteArray) :=
cond (decide (z46.2 < (x1.length : Int))) (
(((ix x1 z46.2).bind fun a47 =>
cond a47.2.1 (
(ix x1 z46.2).bind fun a48 =>
(F51 k a48.1).bind fun y49 => 
grd (decide ((⟨#[1]⟩ : ByteArray).size + y49.size ≤ 9223372036854775807)) <|
grd (decide (z46.1.size + ((⟨#[1]⟩ : ByteArray) ++ y49).size ≤ 9223372036854775807)) <|
some (z46.1 ++ ((⟨#[1]⟩ : ByteArray) ++ y49))) (
(ix x1 z46.2).bind fun a50 =>
(F51 k a50.1).bind fun y51 => 
grd (decide ((⟨#[0]⟩ : ByteArray).size + y51.size ≤ 9223372036854775807)) <|
(ix x1 z46.2).bind fun a52 =>
(F51 k a52.2.2).bind fun y53 => 
grd (decide (((⟨#[0]⟩ : ByteArray) ++ y51).size + y53.size ≤ 9223372036854775807)) <|
grd (decide (z46.1.size + (((⟨#[0]⟩ : ByteArray) ++ y51) ++ y53).size ≤ 9223372036854775807)) <|
some (z46.1 ++ (((⟨#[0]⟩ : ByteArray) ++ y51) ++ y53))) : Option ByteArray)).bind fun y54 => 
some (.inl (y54, (IntKind.wrap .i64 (z46.2 + 1))))) (
some (.inr z46.1))
noncomputable def F22 (k : Nat) (x1 : (List (ByteArray × Bool × ByteArray))) : Option (ByteArray × Int) :=
(F49 k x1).bind fun y3 => 
cond (y3 != 0) (
some ((⟨#[]⟩ : ByteArray), y3)) (
(F50 k (IntKind.wrap .u32 (x1.length : Int))).bind fun y5 => 
(loopN (L22_18 k x1) k (y5, 0)).bind fun y55 => 
some (y55, 0))
def A22 : CTpl := ⟨[.fz .u (.str (.bool (.str .nil)))], []⟩
def h22 : List HTy := [.tl (.str (.bool (.str .nil)))]
def R22 : List RTpl := [⟨.tp [.s, .i .i64], [], [.ts, .ti]⟩]
def n22 : An := .sq (.nd) (.sq (.nd) (.sq (.nd) (.sq (.sq (.nd) (.lp [0] [] ⟨[(5, .s), (6, .i .i64)], []⟩ [.ts, .ti] [(2, ⟨[(5, .s)], []⟩)] [[.ts]] (.sq (.nd) (.jn [6] [] [(0, ⟨[(5, .s)], []⟩)] [[.ts]] (.sq (.nd) (.sq (.nd) (.mk [] [0, 0, 0, 6, 14, 30, 62, 126, 0, 0, 768, 1792, 3840, 8062, 16382, 32767, 65535]))) (.nd))))) (.nd))))
theorem e22 (k : Nat) (y : Tup h22) : exec (P := Tryd.prog) D (lk rowsL) [C49 k, C50 k, C51 k] k (bodyOf Tryd.f22) n22 (fnE Tryd.f22 A22 [] (inOf A22 (ofTup h22 y))) (fnSt [] (inOf A22 (ofTup h22 y))) (leafR D (fnE Tryd.f22 A22 [] (inOf A22 (ofTup h22 y))) Tryd.f22.results.toList (R22.map (·.h)) R22) = F22 k y := by kernel_rfl
noncomputable def C22 (k : Nat) : Con Tryd.prog := ⟨22, Tryd.f22, Tryd.func22, by kernel_rfl, by kernel_rfl, A22, h22, [], R22, fun y => F22 k y, fun y r h => con_ok good mixed (c := bodyOf Tryd.f22) Tryd.func22 (by kernel_rfl) n22 y ((e22 k y).trans h)⟩
noncomputable def F35 (k : Nat) (x1 : Int) (x2 : Int) (x3 : Int) : Option Int :=
some (IntKind.wrap .i64 (x1 - 15))
def A35 : CTpl := ⟨[.ag [.i .i64, .i .i64, .i .i64]], []⟩
def h35 : List HTy := [.ti, .ti, .ti]
def R35 : List RTpl := [⟨.i .i64, [], [.ti]⟩]
def n35 : An := .nd
theorem e35 (k : Nat) (y : Tup h35) : exec (P := Tryd.prog) D (lk rowsL) [] k (bodyOf Tryd.f35) n35 (fnE Tryd.f35 A35 [] (inOf A35 (ofTup h35 y))) (fnSt [] (inOf A35 (ofTup h35 y))) (leafR D (fnE Tryd.f35 A35 [] (inOf A35 (ofTup h35 y))) Tryd.f35.results.toList (R35.map (·.h)) R35) = F35 k y.1 y.2.1 y.2.2 := by kernel_rfl
noncomputable def C35 (k : Nat) : Con Tryd.prog := ⟨35, Tryd.f35, Tryd.func35, by kernel_rfl, by kernel_rfl, A35, h35, [], R35, fun y => F35 k y.1 y.2.1 y.2.2, fun y r h => con_ok good mixed (c := bodyOf Tryd.f35) Tryd.func35 (by kernel_rfl) n35 y ((e35 k y).trans h)⟩
noncomputable def F33 (k : Nat) (x1 : Int) (x2 : Int) (x3 : Int) (x4 : Int) : Option Int :=
(F35 k x1 x2 x3).bind fun y1 => 
(F35 k x1 x2 x3).bind fun y2 => 
grd (y2 != 0) <|
some (IntKind.wrap .i64 ((IntKind.wrap .i64 ((IntKind.wrap .i64 ((IntKind.wrap .i64 ((mn (mx x4 1) 1048576) + y1)) - 1)).tdiv y2)) + 1))
def A33 : CTpl := ⟨[.ag [.i .i64, .i .i64, .i .i64], .i .i64], []⟩
def h33 : List HTy := [.ti, .ti, .ti, .ti]
def R33 : List RTpl := [⟨.i .i64, [], [.ti]⟩]
def n33 : An := .sq (.nd) (.sq (.nd) (.sq (.mk [] [0, 0, 2, 7, 15, 0, 38, 127, 255, 511]) (.nd)))
theorem e33 (k : Nat) (y : Tup h33) : exec (P := Tryd.prog) D (lk rowsL) [C35 k] k (bodyOf Tryd.f33) n33 (fnE Tryd.f33 A33 [] (inOf A33 (ofTup h33 y))) (fnSt [] (inOf A33 (ofTup h33 y))) (leafR D (fnE Tryd.f33 A33 [] (inOf A33 (ofTup h33 y))) Tryd.f33.results.toList (R33.map (·.h)) R33) = F33 k y.1 y.2.1 y.2.2.1 y.2.2.2 := by kernel_rfl
noncomputable def C33 (k : Nat) : Con Tryd.prog := ⟨33, Tryd.f33, Tryd.func33, by kernel_rfl, by kernel_rfl, A33, h33, [], R33, fun y => F33 k y.1 y.2.1 y.2.2.1 y.2.2.2, fun y r h => con_ok good mixed (c := bodyOf Tryd.f33) Tryd.func33 (by kernel_rfl) n33 y ((e33 k y).trans h)⟩
noncomputable def F60 (k : Nat) (x1 : Int) (x2 : Int) (x3 : Int) : Option Int :=
some (IntKind.wrap .i64 (x2 - 1))
def A60 : CTpl := ⟨[.ag [.i .i64, .i .i64, .i .i64]], []⟩
def h60 : List HTy := [.ti, .ti, .ti]
def R60 : List RTpl := [⟨.i .i64, [], [.ti]⟩]
def n60 : An := .nd
theorem e60 (k : Nat) (y : Tup h60) : exec (P := Tryd.prog) D (lk rowsL) [] k (bodyOf Tryd.f60) n60 (fnE Tryd.f60 A60 [] (inOf A60 (ofTup h60 y))) (fnSt [] (inOf A60 (ofTup h60 y))) (leafR D (fnE Tryd.f60 A60 [] (inOf A60 (ofTup h60 y))) Tryd.f60.results.toList (R60.map (·.h)) R60) = F60 k y.1 y.2.1 y.2.2 := by kernel_rfl
noncomputable def C60 (k : Nat) : Con Tryd.prog := ⟨60, Tryd.f60, Tryd.func60, by kernel_rfl, by kernel_rfl, A60, h60, [], R60, fun y => F60 k y.1 y.2.1 y.2.2, fun y r h => con_ok good mixed (c := bodyOf Tryd.f60) Tryd.func60 (by kernel_rfl) n60 y ((e60 k y).trans h)⟩
noncomputable def F34 (k : Nat) (x1 : Int) (x2 : Int) (x3 : Int) : Option Int :=
(F60 k x1 x2 x3).bind fun y1 => 
some (IntKind.wrap .i64 ((IntKind.wrap .i64 (x3 - 3)) * y1))
def A34 : CTpl := ⟨[.ag [.i .i64, .i .i64, .i .i64]], []⟩
def h34 : List HTy := [.ti, .ti, .ti]
def R34 : List RTpl := [⟨.i .i64, [], [.ti]⟩]
def n34 : An := .sq (.nd) (.sq (.mk [] [0, 1, 3, 0, 8, 31, 63]) (.nd))
theorem e34 (k : Nat) (y : Tup h34) : exec (P := Tryd.prog) D (lk rowsL) [C60 k] k (bodyOf Tryd.f34) n34 (fnE Tryd.f34 A34 [] (inOf A34 (ofTup h34 y))) (fnSt [] (inOf A34 (ofTup h34 y))) (leafR D (fnE Tryd.f34 A34 [] (inOf A34 (ofTup h34 y))) Tryd.f34.results.toList (R34.map (·.h)) R34) = F34 k y.1 y.2.1 y.2.2 := by kernel_rfl
noncomputable def C34 (k : Nat) : Con Tryd.prog := ⟨34, Tryd.f34, Tryd.func34, by kernel_rfl, by kernel_rfl, A34, h34, [], R34, fun y => F34 k y.1 y.2.1 y.2.2, fun y r h => con_ok good mixed (c := bodyOf Tryd.f34) Tryd.func34 (by kernel_rfl) n34 y ((e34 k y).trans h)⟩
noncomputable def F36 (k : Nat) (x1 : Int) : Option ByteArray :=
some (strOfNums [(IntKind.wrap .u8 (bits .and .u32 x1 255)), (IntKind.wrap .u8 (bits .and .u32 (x1.fdiv (2 ^ 8)) 255)), (IntKind.wrap .u8 (bits .and .u32 (x1.fdiv (2 ^ 16)) 255)), (IntKind.wrap .u8 (x1.fdiv (2 ^ 24)))])
def A36 : CTpl := ⟨[.i .u32], []⟩
def h36 : List HTy := [.ti]
def R36 : List RTpl := [⟨.s, [], [.ts]⟩]
def n36 : An := .nd
theorem e36 (k : Nat) (y : Tup h36) : exec (P := Tryd.prog) D (lk rowsL) [] k (bodyOf Tryd.f36) n36 (fnE Tryd.f36 A36 [] (inOf A36 (ofTup h36 y))) (fnSt [] (inOf A36 (ofTup h36 y))) (leafR D (fnE Tryd.f36 A36 [] (inOf A36 (ofTup h36 y))) Tryd.f36.results.toList (R36.map (·.h)) R36) = F36 k y := by kernel_rfl
noncomputable def C36 (k : Nat) : Con Tryd.prog := ⟨36, Tryd.f36, Tryd.func36, by kernel_rfl, by kernel_rfl, A36, h36, [], R36, fun y => F36 k y, fun y r h => con_ok good mixed (c := bodyOf Tryd.f36) Tryd.func36 (by kernel_rfl) n36 y ((e36 k y).trans h)⟩
noncomputable def L61_8 (k : Nat) (z6 : (Int × Int)) : Option ((Int × Int) ⊕ Int) :=
cond (decide (z6.2 < 8)) (
((cond ((z6.1.tmod 2) == 1) (
some (bits .xor .u32 (IntKind.wrap .u32 (z6.1.tdiv 2)) 3988292384)) (
some (IntKind.wrap .u32 (z6.1.tdiv 2))) : Option Int)).bind fun y7 => 
some (.inl (y7, (IntKind.wrap .i64 (z6.2 + 1))))) (
some (.inr z6.1))
noncomputable def F61 (k : Nat) (x1 : Int) (x2 : Int) : Option Int :=
(loopN (L61_8 k) k ((bits .xor .u32 x1 (IntKind.wrap .u32 x2)), 0)).bind fun y8 => 
some y8
def A61 : CTpl := ⟨[.i .u32, .i .u8], []⟩
def h61 : List HTy := [.ti, .ti]
def R61 : List RTpl := [⟨.i .u32, [], [.ti]⟩]
def n61 : An := .sq (.nd) (.sq (.nd) (.sq (.sq (.nd) (.lp [] [] ⟨[(0, .i .u32), (5, .i .i64)], []⟩ [.ti, .ti] [(2, ⟨[(0, .i .u32)], []⟩)] [[.ti]] (.sq (.nd) (.jn [5] [] [(0, ⟨[(0, .i .u32)], []⟩)] [[.ti]] (.nd) (.nd))))) (.nd)))
theorem e61 (k : Nat) (y : Tup h61) : exec (P := Tryd.prog) D (lk rowsL) [] k (bodyOf Tryd.f61) n61 (fnE Tryd.f61 A61 [] (inOf A61 (ofTup h61 y))) (fnSt [] (inOf A61 (ofTup h61 y))) (leafR D (fnE Tryd.f61 A61 [] (inOf A61 (ofTup h61 y))) Tryd.f61.results.toList (R61.map (·.h)) R61) = F61 k y.1 y.2 := by kernel_rfl
noncomputable def C61 (k : Nat) : Con Tryd.prog := ⟨61, Tryd.f61, Tryd.func61, by kernel_rfl, by kernel_rfl, A61, h61, [], R61, fun y => F61 k y.1 y.2, fun y r h => con_ok good mixed (c := bodyOf Tryd.f61) Tryd.func61 (by kernel_rfl) n61 y ((e61 k y).trans h)⟩
noncomputable def L37_8 (k : Nat) (x1 : ByteArray) (z8 : (Int × Int)) : Option ((Int × Int) ⊕ Int) :=
cond (decide (z8.2 < (x1.size : Int))) (
grd (decide (0 ≤ z8.2 ∧ z8.2 < (x1.size : Int))) <|
(F61 k z8.1 (bt x1 z8.2)).bind fun y9 => 
some (.inl (y9, (IntKind.wrap .i64 (z8.2 + 1))))) (
some (.inr z8.1))
noncomputable def F37 (k : Nat) (x1 : ByteArray) : Option Int :=
(loopN (L37_8 k x1) k (4294967295, 0)).bind fun y10 => 
some (IntKind.wrap .u32 (4294967295 - y10))
def A37 : CTpl := ⟨[.s], []⟩
def h37 : List HTy := [.ts]
def R37 : List RTpl := [⟨.i .u32, [], [.ti]⟩]
def n37 : An := .sq (.nd) (.sq (.nd) (.sq (.sq (.nd) (.lp [0] [] ⟨[(3, .i .u32), (4, .i .i64)], []⟩ [.ti, .ti] [(2, ⟨[(3, .i .u32)], []⟩)] [[.ti]] (.nd))) (.nd)))
theorem e37 (k : Nat) (y : Tup h37) : exec (P := Tryd.prog) D (lk rowsL) [C61 k] k (bodyOf Tryd.f37) n37 (fnE Tryd.f37 A37 [] (inOf A37 (ofTup h37 y))) (fnSt [] (inOf A37 (ofTup h37 y))) (leafR D (fnE Tryd.f37 A37 [] (inOf A37 (ofTup h37 y))) Tryd.f37.results.toList (R37.map (·.h)) R37) = F37 k y := by kernel_rfl
noncomputable def C37 (k : Nat) : Con Tryd.prog := ⟨37, Tryd.f37, Tryd.func37, by kernel_rfl, by kernel_rfl, A37, h37, [], R37, fun y => F37 k y, fun y r h => con_ok good mixed (c := bodyOf Tryd.f37) Tryd.func37 (by kernel_rfl) n37 y ((e37 k y).trans h)⟩
noncomputable def L14_42 (k : Nat) (x1 : Int) (x2 : Int) (x3 : Int) (x4 : Int) (y5 : (ByteArray × Int)) (z24 : (Int × (List (Int × Int × Int × ByteArray)))) : Option ((Int × (List (Int × Int × Int × ByteArray))) ⊕ (List (Int × Int × Int × ByteArray))) :=
cond (decide (z24.1 < (y5.1.size : Int))) (
(F35 k x1 x2 x3).bind fun y25 => 
grd (bnds (y5.1.size : Int) z24.1 (mn (IntKind.wrap .i64 (z24.1 + y25)) (y5.1.size : Int))) <|
grd (decide ((z24.2.length + [(2, x4, (IntKind.wrap .u32 (z24.2.length : Int)), (y5.1.extract z24.1.toNat ((mn (IntKind.wrap .i64 (z24.1 + y25)) (y5.1.size : Int)).toNat)))].length) * 32 ≤ 140737488355328)) <|
(F35 k x1 x2 x3).bind fun y26 => 
some (.inl ((IntKind.wrap .i64 (z24.1 + y26)), (z24.2 ++ [(2, x4, (IntKind.wrap .u32 (z24.2.length : Int)), (y5.1.extract z24.1.toNat ((mn (IntKind.wrap .i64 (z24.1 + y25)) (y5.1.size : Int)).toNat)))])))) (
some (.inr z24.2))
noncomputable def F14 (k : Nat) (x1 : Int) (x2 : Int) (x3 : Int) (x4 : Int) (x5 : Int) (x6 : Int) (x7 : (List (ByteArray × Bool × ByteArray))) : Option (Int ⊕ (Int × (List (Int × Int × Int × ByteArray)))) :=
(F32 k x1 x2 x3).bind fun y3 => 
cond (!y3) (
some (.inl 1)) (
(F22 k x7).bind fun y5 => 
cond (y5.2 != 0) (
some (.inl y5.2)) (
((cond (decide (x4 ≤ x5)) (
some true) (
cond (decide (x6 < 1)) (
some true) (
cond (decide (x4 < x6)) (
some true) (
some (decide (2147483647 < x4))))) : Option Bool)).bind fun y7 => 
cond y7 (
some (.inl 2)) (
(F33 k x1 x2 x3 (y5.1.size : Int)).bind fun y12 => 
(F34 k x1 x2 x3).bind fun y13 => 
cond (decide (y13 < y12)) (
some (.inl 14)) (
(loopN (L14_42 k x1 x2 x3 x4 y5) k (0, ([] : List (Int × Int × Int × ByteArray)))).bind fun y27 => 
(F36 k x5).bind fun y33 => 
(F36 k x6).bind fun y34 => 
grd (decide (y33.size + y34.size ≤ 9223372036854775807)) <|
(F37 k y5.1).bind fun y35 => 
(F36 k y35).bind fun y36 => 
grd (decide ((y33 ++ y34).size + y36.size ≤ 9223372036854775807)) <|
(F36 k (IntKind.wrap .u32 (y5.1.size : Int))).bind fun y37 => 
grd (decide (((y33 ++ y34) ++ y36).size + y37.size ≤ 9223372036854775807)) <|
grd (decide ((y27.length + [(3, x4, (IntKind.wrap .u32 (y27.length : Int)), (((y33 ++ y34) ++ y36) ++ y37))].length) * 32 ≤ 140737488355328)) <|
some (.inr (0, (y27 ++ [(3, x4, (IntKind.wrap .u32 (y27.length : Int)), (((y33 ++ y34) ++ y36) ++ y37))])))))))
def A14 : CTpl := ⟨[.ag [.i .i64, .i .i64, .i .i64], .ag [.i .u32, .i .u32, .i .u32, .fz .u (.str (.bool (.str .nil)))]], []⟩
def h14 : List HTy := [.ti, .ti, .ti, .ti, .ti, .ti, .tl (.str (.bool (.str .nil)))]
def R14 : List RTpl := [⟨.tp [.c (.slice none 0 0), .i .i64], [], [.ti]⟩, ⟨.tp [.sl .u 500000, .i .i64], [(500000, .ar 43 (.int .i64 (.int .u32 (.int .u32 (.str .nil)))))], [.ti, .tl (.int .i64 (.int .u32 (.int .u32 (.str .nil))))]⟩]
def n14 : An := .sq (.nd) (.sq (.nd) (.sq (.nd) (.sq (.nd) (.sq (.jn [2, 3, 6] [2, 3] [(0, ⟨[(44, .b)], []⟩)] [[.tb]] (.nd) (.nd)) (.sq (.sq (.mk [] [0, 0, 2, 7, 0, 31, 63]) (.nd)) (.sq (.nd) (.sq (.sq (.nd) (.lp [2, 3, 6] [2, 3] ⟨[(8, .sl .n 302100), (9, .i .i64)], [(302100, .ar 43 (.int .i64 (.int .u32 (.int .u32 (.str .nil)))))]⟩ [.ti, .tl (.int .i64 (.int .u32 (.int .u32 (.str .nil))))] [(2, ⟨[(8, .sl .n 302125)], [(302125, .ar 43 (.int .i64 (.int .u32 (.int .u32 (.str .nil)))))]⟩)] [[.tl (.int .i64 (.int .u32 (.int .u32 (.str .nil))))]] (.sq (.nd) (.sq (.mk [] [0, 0, 2, 0, 8, 24, 0, 0, 0, 0, 512, 1792, 0, 4096, 16128, 32704, 65534, 131070, 262143, 524287]) (.nd))))) (.sq (.mk [] [0, 1, 3, 0, 8, 31, 63, 0, 191, 447, 1023, 0, 2048, 6144, 15295, 32767, 65535]) (.nd)))))))))
theorem e14 (k : Nat) (y : Tup h14) : exec (P := Tryd.prog) D (lk rowsL) [C32 k, C22 k, C33 k, C34 k, C35 k, C36 k, C37 k] k (bodyOf Tryd.f14) n14 (fnE Tryd.f14 A14 [] (inOf A14 (ofTup h14 y))) (fnSt [] (inOf A14 (ofTup h14 y))) (leafR D (fnE Tryd.f14 A14 [] (inOf A14 (ofTup h14 y))) Tryd.f14.results.toList (R14.map (·.h)) R14) = F14 k y.1 y.2.1 y.2.2.1 y.2.2.2.1 y.2.2.2.2.1 y.2.2.2.2.2.1 y.2.2.2.2.2.2 := by kernel_rfl
noncomputable def C14 (k : Nat) : Con Tryd.prog := ⟨14, Tryd.f14, Tryd.func14, by kernel_rfl, by kernel_rfl, A14, h14, [], R14, fun y => F14 k y.1 y.2.1 y.2.2.1 y.2.2.2.1 y.2.2.2.2.1 y.2.2.2.2.2.1 y.2.2.2.2.2.2, fun y r h => con_ok good mixed (c := bodyOf Tryd.f14) Tryd.func14 (by kernel_rfl) n14 y ((e14 k y).trans h)⟩
noncomputable def F39 (k : Nat) : Option (Int × Int × Int × Int × Int × Int × Bool) :=
some (0, 0, 0, 0, 0, 0, false)
def A39 : CTpl := ⟨[.c (.nilIface)], []⟩
def h39 : List HTy := []
def R39 : List RTpl := [⟨.tp [.ag [.i .u32, .i .u32, .i .u32, .i .u32, .i .u32, .i .u32], .b], [], [.ti, .ti, .ti, .ti, .ti, .ti, .tb]⟩]
def n39 : An := .nd
theorem e39 (k : Nat) (y : Tup h39) : exec (P := Tryd.prog) D (lk rowsL) [] k (bodyOf Tryd.f39) n39 (fnE Tryd.f39 A39 [] (inOf A39 (ofTup h39 y))) (fnSt [] (inOf A39 (ofTup h39 y))) (leafR D (fnE Tryd.f39 A39 [] (inOf A39 (ofTup h39 y))) Tryd.f39.results.toList (R39.map (·.h)) R39) = F39 k := by kernel_rfl
noncomputable def C39 (k : Nat) : Con Tryd.prog := ⟨39, Tryd.f39, Tryd.func39, by kernel_rfl, by kernel_rfl, A39, h39, [], R39, fun y => F39 k, fun y r h => con_ok good mixed (c := bodyOf Tryd.f39) Tryd.func39 (by kernel_rfl) n39 y ((e39 k y).trans h)⟩
noncomputable def F40 (k : Nat) : Option (Int × Int × ByteArray × Bool) :=
some (0, 0, ByteArray.empty, false)
def A40 : CTpl := ⟨[.c (.nilIface)], []⟩
def h40 : List HTy := []
def R40 : List RTpl := [⟨.tp [.ag [.i .u32, .i .u32, .s], .b], [], [.ti, .ti, .ts, .tb]⟩]
def n40 : An := .nd
theorem e40 (k : Nat) (y : Tup h40) : exec (P := Tryd.prog) D (lk rowsL) [] k (bodyOf Tryd.f40) n40 (fnE Tryd.f40 A40 [] (inOf A40 (ofTup h40 y))) (fnSt [] (inOf A40 (ofTup h40 y))) (leafR D (fnE Tryd.f40 A40 [] (inOf A40 (ofTup h40 y))) Tryd.f40.results.toList (R40.map (·.h)) R40) = F40 k := by kernel_rfl
noncomputable def C40 (k : Nat) : Con Tryd.prog := ⟨40, Tryd.f40, Tryd.func40, by kernel_rfl, by kernel_rfl, A40, h40, [], R40, fun y => F40 k, fun y r h => con_ok good mixed (c := bodyOf Tryd.f40) Tryd.func40 (by kernel_rfl) n40 y ((e40 k y).trans h)⟩
noncomputable def F40_1 (k : Nat) (x1 : Int) (x2 : Int) : Option (Int × Int × ByteArray × Bool) :=
some (0, 0, ByteArray.empty, false)
def A40_1 : CTpl := ⟨[.ifc 98 (.ag [.i .u32, .i .u32])], []⟩
def h40_1 : List HTy := [.ti, .ti]
def R40_1 : List RTpl := [⟨.tp [.ag [.i .u32, .i .u32, .s], .b], [], [.ti, .ti, .ts, .tb]⟩]
def n40_1 : An := .nd
theorem e40_1 (k : Nat) (y : Tup h40_1) : exec (P := Tryd.prog) D (lk rowsL) [] k (bodyOf Tryd.f40) n40_1 (fnE Tryd.f40 A40_1 [] (inOf A40_1 (ofTup h40_1 y))) (fnSt [] (inOf A40_1 (ofTup h40_1 y))) (leafR D (fnE Tryd.f40 A40_1 [] (inOf A40_1 (ofTup h40_1 y))) Tryd.f40.results.toList (R40_1.map (·.h)) R40_1) = F40_1 k y.1 y.2 := by kernel_rfl
noncomputable def C40_1 (k : Nat) : Con Tryd.prog := ⟨40, Tryd.f40, Tryd.func40, by kernel_rfl, by kernel_rfl, A40_1, h40_1, [], R40_1, fun y => F40_1 k y.1 y.2, fun y r h => con_ok good mixed (c := bodyOf Tryd.f40) Tryd.func40 (by kernel_rfl) n40_1 y ((e40_1 k y).trans h)⟩
noncomputable def F40_2 (k : Nat) (x1 : Int) (x2 : Int) (x3 : ByteArray) : Option (Int × Int × ByteArray × Bool) :=
some (x1, x2, x3, true)
def A40_2 : CTpl := ⟨[.ifc 63 (.ag [.i .u32, .i .u32, .s])], []⟩
def h40_2 : List HTy := [.ti, .ti, .ts]
def R40_2 : List RTpl := [⟨.tp [.ag [.i .u32, .i .u32, .s], .b], [], [.ti, .ti, .ts, .tb]⟩]
def n40_2 : An := .nd
theorem e40_2 (k : Nat) (y : Tup h40_2) : exec (P := Tryd.prog) D (lk rowsL) [] k (bodyOf Tryd.f40) n40_2 (fnE Tryd.f40 A40_2 [] (inOf A40_2 (ofTup h40_2 y))) (fnSt [] (inOf A40_2 (ofTup h40_2 y))) (leafR D (fnE Tryd.f40 A40_2 [] (inOf A40_2 (ofTup h40_2 y))) Tryd.f40.results.toList (R40_2.map (·.h)) R40_2) = F40_2 k y.1 y.2.1 y.2.2 := by kernel_rfl
noncomputable def C40_2 (k : Nat) : Con Tryd.prog := ⟨40, Tryd.f40, Tryd.func40, by kernel_rfl, by kernel_rfl, A40_2, h40_2, [], R40_2, fun y => F40_2 k y.1 y.2.1 y.2.2, fun y r h => con_ok good mixed (c := bodyOf Tryd.f40) Tryd.func40 (by kernel_rfl) n40_2 y ((e40_2 k y).trans h)⟩
noncomputable def F40_3 (k : Nat) (x1 : Int) (x2 : Int) (x3 : Int) (x4 : Int) (x5 : Int) (x6 : Int) : Option (Int × Int × ByteArray × Bool) :=
some (0, 0, ByteArray.empty, false)
def A40_3 : CTpl := ⟨[.ifc 66 (.ag [.i .u32, .i .u32, .i .u32, .i .u32, .i .u32, .i .u32])], []⟩
def h40_3 : List HTy := [.ti, .ti, .ti, .ti, .ti, .ti]
def R40_3 : List RTpl := [⟨.tp [.ag [.i .u32, .i .u32, .s], .b], [], [.ti, .ti, .ts, .tb]⟩]
def n40_3 : An := .nd
theorem e40_3 (k : Nat) (y : Tup h40_3) : exec (P := Tryd.prog) D (lk rowsL) [] k (bodyOf Tryd.f40) n40_3 (fnE Tryd.f40 A40_3 [] (inOf A40_3 (ofTup h40_3 y))) (fnSt [] (inOf A40_3 (ofTup h40_3 y))) (leafR D (fnE Tryd.f40 A40_3 [] (inOf A40_3 (ofTup h40_3 y))) Tryd.f40.results.toList (R40_3.map (·.h)) R40_3) = F40_3 k y.1 y.2.1 y.2.2.1 y.2.2.2.1 y.2.2.2.2.1 y.2.2.2.2.2 := by kernel_rfl
noncomputable def C40_3 (k : Nat) : Con Tryd.prog := ⟨40, Tryd.f40, Tryd.func40, by kernel_rfl, by kernel_rfl, A40_3, h40_3, [], R40_3, fun y => F40_3 k y.1 y.2.1 y.2.2.1 y.2.2.2.1 y.2.2.2.2.1 y.2.2.2.2.2, fun y r h => con_ok good mixed (c := bodyOf Tryd.f40) Tryd.func40 (by kernel_rfl) n40_3 y ((e40_3 k y).trans h)⟩
noncomputable def F40_4 (k : Nat) (x1 : Int) (x2 : Int) (x3 : Int) : Option (Int × Int × ByteArray × Bool) :=
some (0, 0, ByteArray.empty, false)
def A40_4 : CTpl := ⟨[.ifc 100 (.ag [.i .u32, .i .u32, .i .u32])], []⟩
def h40_4 : List HTy := [.ti, .ti, .ti]
def R40_4 : List RTpl := [⟨.tp [.ag [.i .u32, .i .u32, .s], .b], [], [.ti, .ti, .ts, .tb]⟩]
def n40_4 : An := .nd
theorem e40_4 (k : Nat) (y : Tup h40_4) : exec (P := Tryd.prog) D (lk rowsL) [] k (bodyOf Tryd.f40) n40_4 (fnE Tryd.f40 A40_4 [] (inOf A40_4 (ofTup h40_4 y))) (fnSt [] (inOf A40_4 (ofTup h40_4 y))) (leafR D (fnE Tryd.f40 A40_4 [] (inOf A40_4 (ofTup h40_4 y))) Tryd.f40.results.toList (R40_4.map (·.h)) R40_4) = F40_4 k y.1 y.2.1 y.2.2 := by kernel_rfl
noncomputable def C40_4 (k : Nat) : Con Tryd.prog := ⟨40, Tryd.f40, Tryd.func40, by kernel_rfl, by kernel_rfl, A40_4, h40_4, [], R40_4, fun y => F40_4 k y.1 y.2.1 y.2.2, fun y r h => con_ok good mixed (c := bodyOf Tryd.f40) Tryd.func40 (by kernel_rfl) n40_4 y ((e40_4 k y).trans h)⟩
noncomputable def F42 (k : Nat) (x1 : (List Int)) : Option Int :=
some (x1.length : Int)
def A42 : CTpl := ⟨[.pt 1000000 0], [(1000000, .bx 77 [.sp 1000000, .sl .u 1000001]), (1000001, .ar 5 (.int .u8 .nil))]⟩
def h42 : List HTy := [.tl (.int .u8 .nil)]
def R42 : List RTpl := [⟨.i .i64, [], [.ti]⟩]
def n42 : An := .nd
theorem e42 (k : Nat) (y : Tup h42) : exec (P := Tryd.prog) D (lk rowsL) [] k (bodyOf Tryd.f42) n42 (fnE Tryd.f42 A42 [1000000, 1000001] (inOf A42 (ofTup h42 y))) (fnSt [1000000, 1000001] (inOf A42 (ofTup h42 y))) (leafR D (fnE Tryd.f42 A42 [1000000, 1000001] (inOf A42 (ofTup h42 y))) Tryd.f42.results.toList (R42.map (·.h)) R42) = F42 k y := by kernel_rfl
noncomputable def C42 (k : Nat) : Con Tryd.prog := ⟨42, Tryd.f42, Tryd.func42, by kernel_rfl, by kernel_rfl, A42, h42, [1000000, 1000001], R42, fun y => F42 k y, fun y r h => con_ok good mixed (c := bodyOf Tryd.f42) Tryd.func42 (by kernel_rfl) n42 y ((e42 k y).trans h)⟩
noncomputable def F43_1 (k : Nat) (x1 : (List Int)) : Option (ByteArray × (List Int)) :=
grd (byteB x1) (some (strOfNums x1, x1))
def A43_1 : CTpl := ⟨[.pt 1000000 0], [(1000000, .bx 77 [.sp 1000000, .sl .u 1000001]), (1000001, .ar 2000005 (.int .u8 .nil))]⟩
def h43_1 : List HTy := [.tl (.int .u8 .nil)]
def R43_1 : List RTpl := [⟨.s, [(1000001, .ar 2000005 (.int .u8 .nil))], [.ts, .tl (.int .u8 .nil)]⟩]
def n43_1 : An := .nd
noncomputable def C43_1 (k : Nat) : Con Tryd.prog := ⟨43, Tryd.f43, Tryd.func43, by kernel_rfl, by kernel_rfl, A43_1, h43_1, [1000000], R43_1, fun y => F43_1 k y, fun y r h => by
  have h2 : grd (byteB y) (some (strOfNums y, y)) = some r := h
  obtain ⟨hb, h3⟩ := grd_out h2
  cases h3
  exact CTx.builderStr (ρ := Tryd.lays169_ren) Tryd.lays169 Tryd.Builder_Extra_169 (.inr rfl) (by decide) hb⟩
noncomputable def L64_16 (k : Nat) (x1 : ByteArray) (x2 : Int) (z11 : (Int × Int)) : Option ((Int × Int) ⊕ ((Int × Int × Int) ⊕ Unit)) :=
cond (decide (z11.2 < 5)) (
cond (decide ((x1.size : Int) ≤ (IntKind.wrap .i64 (x2 + z11.2)))) (
some (.inr (.inl (0, 0, 3)))) (
grd (decide (0 ≤ (IntKind.wrap .i64 (x2 + z11.2)) ∧ (IntKind.wrap .i64 (x2 + z11.2)) < (x1.size : Int))) <|
((cond (z11.2 == 4) (
cond (decide (15 < (bt x1 (IntKind.wrap .i64 (x2 + z11.2))))) (
some true) (
cond (decide (0 < z11.2)) (
some ((bt x1 (IntKind.wrap .i64 (x2 + z11.2))) == 0)) (
some false))) (
cond (decide (0 < z11.2)) (
some ((bt x1 (IntKind.wrap .i64 (x2 + z11.2))) == 0)) (
some false)) : Option Bool)).bind fun y12 => 
cond y12 (
some (.inr (.inl (0, 0, 2)))) (
grd (decide (0 ≤ (IntKind.wrap .i64 (7 * z11.2)))) <|
cond (decide ((bt x1 (IntKind.wrap .i64 (x2 + z11.2))) < 128)) (
some (.inr (.inl ((bits .or .u32 z11.1 (IntKind.wrap .u32 ((IntKind.wrap .u32 (bits .and .u8 (bt x1 (IntKind.wrap .i64 (x2 + z11.2))) 127)) * 2 ^ (min (IntKind.wrap .i64 (7 * z11.2)).toNat 32)))), (IntKind.wrap .i64 ((IntKind.wrap .i64 (x2 + z11.2)) + 1)), 0)))) (
some (.inl ((bits .or .u32 z11.1 (IntKind.wrap .u32 ((IntKind.wrap .u32 (bits .and .u8 (bt x1 (IntKind.wrap .i64 (x2 + z11.2))) 127)) * 2 ^ (min (IntKind.wrap .i64 (7 * z11.2)).toNat 32)))), (IntKind.wrap .i64 (z11.2 + 1)))))))) (
some (.inr (.inr ())))
noncomputable def F64 (k : Nat) (x1 : ByteArray) (x2 : Int) : Option (Int × Int × Int) :=
((cond (decide (x2 < 0)) (
some true) (
some (decide ((x1.size : Int) < x2))) : Option Bool)).bind fun y2 => 
cond y2 (
some (0, 0, 1)) (
(loopN (L64_16 k x1 x2) k (0, 0)).bind fun y13 => 
sel (fun y14 =>
some (y14.1, y14.2.1, y14.2.2)) (fun y15 =>
some (0, 0, 2)) y13)
def A64 : CTpl := ⟨[.s, .i .i64], []⟩
def h64 : List HTy := [.ts, .ti]
def R64 : List RTpl := [⟨.tp [.i .u32, .i .i64, .i .i64], [], [.ti, .ti, .ti]⟩]
def n64 : An := .sq (.nd) (.sq (.jn [0, 1] [] [(0, ⟨[(17, .b)], []⟩)] [[.tb]] (.nd) (.nd)) (.sq (.nd) (.sq (.sq (.nd) (.lp [0, 1] [] ⟨[(7, .i .u32), (18, .i .i64)], []⟩ [.ti, .ti] [(1, ⟨[(4, .i .u32), (5, .i .i64), (6, .i .i64)], []⟩), (2, ⟨[], []⟩)] [[.ti, .ti, .ti], []] (.sq (.nd) (.sq (.nd) (.sq (.sq (.nd) (.sq (.nd) (.sq (.nd) (.sq (.jn [7, 8, 9, 18] [] [(0, ⟨[(45, .b)], []⟩)] [[.tb]] (.nd) (.nd)) (.nd))))) (.nd)))))) (.nd))))
theorem e64 (k : Nat) (y : Tup h64) : exec (P := Tryd.prog) D (lk rowsL) [] k (bodyOf Tryd.f64) n64 (fnE Tryd.f64 A64 [] (inOf A64 (ofTup h64 y))) (fnSt [] (inOf A64 (ofTup h64 y))) (leafR D (fnE Tryd.f64 A64 [] (inOf A64 (ofTup h64 y))) Tryd.f64.results.toList (R64.map (·.h)) R64) = F64 k y.1 y.2 := by kernel_rfl
noncomputable def C64 (k : Nat) : Con Tryd.prog := ⟨64, Tryd.f64, Tryd.func64, by kernel_rfl, by kernel_rfl, A64, h64, [], R64, fun y => F64 k y.1 y.2, fun y r h => con_ok good mixed (c := bodyOf Tryd.f64) Tryd.func64 (by kernel_rfl) n64 y ((e64 k y).trans h)⟩
noncomputable def F75 (k : Nat) (x1 : ByteArray) (x2 : Int) (x3 : Int) : Option (ByteArray × Int × Int) :=
(F64 k x1 x2).bind fun y2 => 
cond (y2.2.2 != 0) (
some ((⟨#[]⟩ : ByteArray), 0, y2.2.2)) (
cond (decide ((mx x3 0) < (IntKind.wrap .i64 y2.1))) (
some ((⟨#[]⟩ : ByteArray), 0, 4)) (
cond (decide ((IntKind.wrap .i64 ((x1.size : Int) - y2.2.1)) < (IntKind.wrap .i64 y2.1))) (
some ((⟨#[]⟩ : ByteArray), 0, 3)) (
grd (bnds (x1.size : Int) y2.2.1 (IntKind.wrap .i64 (y2.2.1 + (IntKind.wrap .i64 y2.1)))) <|
some ((x1.extract y2.2.1.toNat ((IntKind.wrap .i64 (y2.2.1 + (IntKind.wrap .i64 y2.1))).toNat)), (IntKind.wrap .i64 (y2.2.1 + (IntKind.wrap .i64 y2.1))), 0))))
def A75 : CTpl := ⟨[.s, .i .i64, .i .i64], []⟩
def h75 : List HTy := [.ts, .ti, .ti]
def R75 : List RTpl := [⟨.tp [.s, .i .i64, .i .i64], [], [.ts, .ti, .ti]⟩]
def n75 : An := .nd
theorem e75 (k : Nat) (y : Tup h75) : exec (P := Tryd.prog) D (lk rowsL) [C64 k] k (bodyOf Tryd.f75) n75 (fnE Tryd.f75 A75 [] (inOf A75 (ofTup h75 y))) (fnSt [] (inOf A75 (ofTup h75 y))) (leafR D (fnE Tryd.f75 A75 [] (inOf A75 (ofTup h75 y))) Tryd.f75.results.toList (R75.map (·.h)) R75) = F75 k y.1 y.2.1 y.2.2 := by kernel_rfl
noncomputable def C75 (k : Nat) : Con Tryd.prog := ⟨75, Tryd.f75, Tryd.func75, by kernel_rfl, by kernel_rfl, A75, h75, [], R75, fun y => F75 k y.1 y.2.1 y.2.2, fun y r h => con_ok good mixed (c := bodyOf Tryd.f75) Tryd.func75 (by kernel_rfl) n75 y ((e75 k y).trans h)⟩
noncomputable def F65 (k : Nat) (x1 : ByteArray) (x2 : Int) : Option (ByteArray × Bool × ByteArray × Int × Int) :=
cond (decide ((x1.size : Int) ≤ x2)) (
some (ByteArray.empty, false, ByteArray.empty, 0, 3)) (
grd (decide (0 ≤ x2 ∧ x2 < (x1.size : Int))) <|
cond (decide (1 < (bt x1 x2))) (
some (ByteArray.empty, false, ByteArray.empty, 0, 2)) (
grd (decide (0 ≤ x2 ∧ x2 < (x1.size : Int))) <|
(F75 k x1 (IntKind.wrap .i64 (x2 + 1)) 48).bind fun y4 => 
((cond (y4.2.2 != 0) (
some true) (
some ((bt x1 x2) == 1)) : Option Bool)).bind fun y5 => 
cond y5 (
some (y4.1, ((bt x1 x2) == 1), ByteArray.empty, y4.2.1, y4.2.2)) (
(F75 k x1 y4.2.1 48).bind fun y7 => 
some (y4.1, ((bt x1 x2) == 1), y7.1, y7.2.1, y7.2.2))))
def A65 : CTpl := ⟨[.s, .i .i64], []⟩
def h65 : List HTy := [.ts, .ti]
def R65 : List RTpl := [⟨.tp [.ag [.s, .b, .s], .i .i64, .i .i64], [], [.ts, .tb, .ts, .ti, .ti]⟩]
def n65 : An := .sq (.nd) (.sq (.nd) (.sq (.nd) (.sq (.nd) (.sq (.nd) (.sq (.sq (.nd) (.jn [0, 1, 4, 7, 8] [4, 7] [(0, ⟨[(38, .b)], []⟩)] [[.tb]] (.nd) (.nd))) (.nd))))))
theorem e65 (k : Nat) (y : Tup h65) : exec (P := Tryd.prog) D (lk rowsL) [C75 k] k (bodyOf Tryd.f65) n65 (fnE Tryd.f65 A65 [] (inOf A65 (ofTup h65 y))) (fnSt [] (inOf A65 (ofTup h65 y))) (leafR D (fnE Tryd.f65 A65 [] (inOf A65 (ofTup h65 y))) Tryd.f65.results.toList (R65.map (·.h)) R65) = F65 k y.1 y.2 := by kernel_rfl
noncomputable def C65 (k : Nat) : Con Tryd.prog := ⟨65, Tryd.f65, Tryd.func65, by kernel_rfl, by kernel_rfl, A65, h65, [], R65, fun y => F65 k y.1 y.2, fun y r h => con_ok good mixed (c := bodyOf Tryd.f65) Tryd.func65 (by kernel_rfl) n65 y ((e65 k y).trans h)⟩
noncomputable def L44_26 (k : Nat) (x1 : ByteArray) (y2 : (Int × Int × Int)) (z18 : (Int × Int × (List (ByteArray × Bool × ByteArray)))) : Option ((Int × Int × (List (ByteArray × Bool × ByteArray))) ⊕ (Int ⊕ (Int × (List (ByteArray × Bool × ByteArray))))) :=
cond (decide (z18.2.1 < y2.1)) (
(F65 k x1 z18.1).bind fun y19 => 
cond (y19.2.2.2.2 != 0) (
some (.inr (.inl y19.2.2.2.2))) (
grd (decide ((z18.2.2.length + [(y19.1, y19.2.1, y19.2.2.1)].length) * 40 ≤ 140737488355328)) <|
some (.inl (y19.2.2.2.1, (IntKind.wrap .u32 (z18.2.1 + 1)), (z18.2.2 ++ [(y19.1, y19.2.1, y19.2.2.1)]))))) (
some (.inr (.inr (z18.1, z18.2.2))))
noncomputable def F44 (k : Nat) (x1 : ByteArray) : Option ((List (ByteArray × Bool × ByteArray)) × Int) :=
(F64 k x1 0).bind fun y2 => 
cond (y2.2.2 != 0) (
some (([] : List (ByteArray × Bool × ByteArray)), y2.2.2)) (
((cond (decide (y2.1 < 1)) (
some true) (
some (decide (8 < y2.1))) : Option Bool)).bind fun y4 => 
cond y4 (
some (([] : List (ByteArray × Bool × ByteArray)), 12)) (
(loopN (L44_26 k x1 y2) k (y2.2.1, 0, ([] : List (ByteArray × Bool × ByteArray)))).bind fun y20 => 
sel (fun y21 =>
some (([] : List (ByteArray × Bool × ByteArray)), y21)) (fun y22 =>
cond (decide (y22.1 < (x1.size : Int))) (
some (([] : List (ByteArray × Bool × ByteArray)), 2)) (
(F55 k y22.2).bind fun y25 => 
cond (y25 != 0) (
some (([] : List (ByteArray × Bool × ByteArray)), y25)) (
some (y22.2, 0)))) y20))
def A44 : CTpl := ⟨[.s], []⟩
def h44 : List HTy := [.ts]
def R44 : List RTpl := [⟨.tp [.fz .u (.str (.bool (.str .nil))), .i .i64], [], [.tl (.str (.bool (.str .nil))), .ti]⟩]
def n44 : An := .sq (.nd) (.sq (.nd) (.sq (.nd) (.sq (.jn [0, 4, 5] [] [(0, ⟨[(24, .b)], []⟩)] [[.tb]] (.nd) (.nd)) (.sq (.nd) (.sq (.sq (.nd) (.lp [0, 25] [] ⟨[(5, .i .i64), (7, .sl .n 301300), (26, .i .u32)], [(301300, .ar 57 (.str (.bool (.str .nil))))]⟩ [.ti, .ti, .tl (.str (.bool (.str .nil)))] [(1, ⟨[(2, .c (.slice none 0 0)), (3, .i .i64)], []⟩), (2, ⟨[(5, .i .i64), (7, .sl .n 301335)], [(301335, .ar 57 (.str (.bool (.str .nil))))]⟩)] [[.ti], [.ti, .tl (.str (.bool (.str .nil)))]] (.nd))) (.sq (.nd) (.sq (.sq (.fr [(1, 301335)]) (.nd)) (.nd))))))))
theorem e44 (k : Nat) (hm : Mo.m = false) (y : Tup h44) : exec (P := Tryd.prog) D (lk rowsL) [C64 k, C65 k, C55 k hm] k (bodyOf Tryd.f44) n44 (fnE Tryd.f44 A44 [] (inOf A44 (ofTup h44 y))) (fnSt [] (inOf A44 (ofTup h44 y))) (leafR D (fnE Tryd.f44 A44 [] (inOf A44 (ofTup h44 y))) Tryd.f44.results.toList (R44.map (·.h)) R44) = F44 k y := by kernel_rfl
noncomputable def C44 (k : Nat) (hm : Mo.m = false) : Con Tryd.prog := ⟨44, Tryd.f44, Tryd.func44, by kernel_rfl, by kernel_rfl, A44, h44, [], R44, fun y => F44 k y, fun y r h => con_ok good mixed (c := bodyOf Tryd.f44) Tryd.func44 (by kernel_rfl) n44 y ((e44 k hm y).trans h)⟩
noncomputable def F39_1 (k : Nat) (x1 : Int) (x2 : Int) : Option (Int × Int × Int × Int × Int × Int × Bool) :=
some (0, 0, 0, 0, 0, 0, false)
def A39_1 : CTpl := ⟨[.ifc 98 (.ag [.i .u32, .i .u32])], []⟩
def h39_1 : List HTy := [.ti, .ti]
def R39_1 : List RTpl := [⟨.tp [.ag [.i .u32, .i .u32, .i .u32, .i .u32, .i .u32, .i .u32], .b], [], [.ti, .ti, .ti, .ti, .ti, .ti, .tb]⟩]
def n39_1 : An := .nd
theorem e39_1 (k : Nat) (y : Tup h39_1) : exec (P := Tryd.prog) D (lk rowsL) [] k (bodyOf Tryd.f39) n39_1 (fnE Tryd.f39 A39_1 [] (inOf A39_1 (ofTup h39_1 y))) (fnSt [] (inOf A39_1 (ofTup h39_1 y))) (leafR D (fnE Tryd.f39 A39_1 [] (inOf A39_1 (ofTup h39_1 y))) Tryd.f39.results.toList (R39_1.map (·.h)) R39_1) = F39_1 k y.1 y.2 := by kernel_rfl
noncomputable def C39_1 (k : Nat) : Con Tryd.prog := ⟨39, Tryd.f39, Tryd.func39, by kernel_rfl, by kernel_rfl, A39_1, h39_1, [], R39_1, fun y => F39_1 k y.1 y.2, fun y r h => con_ok good mixed (c := bodyOf Tryd.f39) Tryd.func39 (by kernel_rfl) n39_1 y ((e39_1 k y).trans h)⟩
noncomputable def F39_2 (k : Nat) (x1 : Int) (x2 : Int) (x3 : ByteArray) : Option (Int × Int × Int × Int × Int × Int × Bool) :=
some (0, 0, 0, 0, 0, 0, false)
def A39_2 : CTpl := ⟨[.ifc 63 (.ag [.i .u32, .i .u32, .s])], []⟩
def h39_2 : List HTy := [.ti, .ti, .ts]
def R39_2 : List RTpl := [⟨.tp [.ag [.i .u32, .i .u32, .i .u32, .i .u32, .i .u32, .i .u32], .b], [], [.ti, .ti, .ti, .ti, .ti, .ti, .tb]⟩]
def n39_2 : An := .nd
theorem e39_2 (k : Nat) (y : Tup h39_2) : exec (P := Tryd.prog) D (lk rowsL) [] k (bodyOf Tryd.f39) n39_2 (fnE Tryd.f39 A39_2 [] (inOf A39_2 (ofTup h39_2 y))) (fnSt [] (inOf A39_2 (ofTup h39_2 y))) (leafR D (fnE Tryd.f39 A39_2 [] (inOf A39_2 (ofTup h39_2 y))) Tryd.f39.results.toList (R39_2.map (·.h)) R39_2) = F39_2 k y.1 y.2.1 y.2.2 := by kernel_rfl
noncomputable def C39_2 (k : Nat) : Con Tryd.prog := ⟨39, Tryd.f39, Tryd.func39, by kernel_rfl, by kernel_rfl, A39_2, h39_2, [], R39_2, fun y => F39_2 k y.1 y.2.1 y.2.2, fun y r h => con_ok good mixed (c := bodyOf Tryd.f39) Tryd.func39 (by kernel_rfl) n39_2 y ((e39_2 k y).trans h)⟩
noncomputable def F39_3 (k : Nat) (x1 : Int) (x2 : Int) (x3 : Int) (x4 : Int) (x5 : Int) (x6 : Int) : Option (Int × Int × Int × Int × Int × Int × Bool) :=
some (x1, x2, x3, x4, x5, x6, true)
def A39_3 : CTpl := ⟨[.ifc 66 (.ag [.i .u32, .i .u32, .i .u32, .i .u32, .i .u32, .i .u32])], []⟩
def h39_3 : List HTy := [.ti, .ti, .ti, .ti, .ti, .ti]
def R39_3 : List RTpl := [⟨.tp [.ag [.i .u32, .i .u32, .i .u32, .i .u32, .i .u32, .i .u32], .b], [], [.ti, .ti, .ti, .ti, .ti, .ti, .tb]⟩]
def n39_3 : An := .nd
theorem e39_3 (k : Nat) (y : Tup h39_3) : exec (P := Tryd.prog) D (lk rowsL) [] k (bodyOf Tryd.f39) n39_3 (fnE Tryd.f39 A39_3 [] (inOf A39_3 (ofTup h39_3 y))) (fnSt [] (inOf A39_3 (ofTup h39_3 y))) (leafR D (fnE Tryd.f39 A39_3 [] (inOf A39_3 (ofTup h39_3 y))) Tryd.f39.results.toList (R39_3.map (·.h)) R39_3) = F39_3 k y.1 y.2.1 y.2.2.1 y.2.2.2.1 y.2.2.2.2.1 y.2.2.2.2.2 := by kernel_rfl
noncomputable def C39_3 (k : Nat) : Con Tryd.prog := ⟨39, Tryd.f39, Tryd.func39, by kernel_rfl, by kernel_rfl, A39_3, h39_3, [], R39_3, fun y => F39_3 k y.1 y.2.1 y.2.2.1 y.2.2.2.1 y.2.2.2.2.1 y.2.2.2.2.2, fun y r h => con_ok good mixed (c := bodyOf Tryd.f39) Tryd.func39 (by kernel_rfl) n39_3 y ((e39_3 k y).trans h)⟩
noncomputable def F39_4 (k : Nat) (x1 : Int) (x2 : Int) (x3 : Int) : Option (Int × Int × Int × Int × Int × Int × Bool) :=
some (0, 0, 0, 0, 0, 0, false)
def A39_4 : CTpl := ⟨[.ifc 100 (.ag [.i .u32, .i .u32, .i .u32])], []⟩
def h39_4 : List HTy := [.ti, .ti, .ti]
def R39_4 : List RTpl := [⟨.tp [.ag [.i .u32, .i .u32, .i .u32, .i .u32, .i .u32, .i .u32], .b], [], [.ti, .ti, .ti, .ti, .ti, .ti, .tb]⟩]
def n39_4 : An := .nd
theorem e39_4 (k : Nat) (y : Tup h39_4) : exec (P := Tryd.prog) D (lk rowsL) [] k (bodyOf Tryd.f39) n39_4 (fnE Tryd.f39 A39_4 [] (inOf A39_4 (ofTup h39_4 y))) (fnSt [] (inOf A39_4 (ofTup h39_4 y))) (leafR D (fnE Tryd.f39 A39_4 [] (inOf A39_4 (ofTup h39_4 y))) Tryd.f39.results.toList (R39_4.map (·.h)) R39_4) = F39_4 k y.1 y.2.1 y.2.2 := by kernel_rfl
noncomputable def C39_4 (k : Nat) : Con Tryd.prog := ⟨39, Tryd.f39, Tryd.func39, by kernel_rfl, by kernel_rfl, A39_4, h39_4, [], R39_4, fun y => F39_4 k y.1 y.2.1 y.2.2, fun y r h => con_ok good mixed (c := bodyOf Tryd.f39) Tryd.func39 (by kernel_rfl) n39_4 y ((e39_4 k y).trans h)⟩
noncomputable def L17_30 (k : Nat) (x1 : (List (Int × Int × Int × ByteArray))) (y554 : (Int × Int × Int × Int × Int × Int × Bool)) (z557 : (Int × (List Int))) : Option ((Int × (List Int)) ⊕ ((List Int) ⊕ (List Int))) :=
cond (decide (z557.1 < ((cut x1 0 (IntKind.wrap .i64 ((x1.length : Int) - 1))).length : Int))) (
(((ix (cut x1 0 (IntKind.wrap .i64 ((x1.length : Int) - 1))) z557.1).bind fun a558 =>
(((F38 k a558.1 a558.2.1 a558.2.2.1 a558.2.2.2).bind fun y559 => 
sel (fun y560 =>
some (.inl ())) (fun y561 =>
sel (fun y562 =>
some (.inr (.inl (y562.1, y562.2.1)))) (fun y563 =>
sel (fun y564 =>
some (.inr (.inr (.inl (y564.1, y564.2.1, y564.2.2.1))))) (fun y565 =>
sel (fun y566 =>
some (.inr (.inr (.inr (.inl (y566.1, y566.2.1, y566.2.2.1, y566.2.2.2.1, y566.2.2.2.2.1, y566.2.2.2.2.2.1)))))) (fun y567 =>
some (.inr (.inr (.inr (.inr (y567.1, y567.2.1, y567.2.2.1)))))) y565) y563) y561) y559 : Option (Unit ⊕ (Int × Int) ⊕ (Int × Int × ByteArray) ⊕ (Int × Int × Int × Int × Int × Int) ⊕ (Int × Int × Int)))).bind fun y568 => 
sel (fun y569 =>
(F40 k).bind fun y571 => 
((cond (!y571.2.2.2) (
some true) (
cond (y571.1 != y554.1) (
some true) (
some (y571.2.1 != (IntKind.wrap .u32 z557.1)))) : Option Bool)).bind fun y572 => 
cond y572 (
some (.inr z557.2)) (
(F41 k y571.2.2.1 z557.2).bind fun y573 => 
some (.inl y573.2))) (fun y570 =>
sel (fun y574 =>
(F40_1 k y574.1 y574.2).bind fun y576 => 
((cond (!y576.2.2.2) (
some true) (
cond (y576.1 != y554.1) (
some true) (
some (y576.2.1 != (IntKind.wrap .u32 z557.1)))) : Option Bool)).bind fun y577 => 
cond y577 (
some (.inr z557.2)) (
(F41 k y576.2.2.1 z557.2).bind fun y578 => 
some (.inl y578.2))) (fun y575 =>
sel (fun y579 =>
(F40_2 k y579.1 y579.2.1 y579.2.2).bind fun y581 => 
((cond (!y581.2.2.2) (
some true) (
cond (y581.1 != y554.1) (
some true) (
some (y581.2.1 != (IntKind.wrap .u32 z557.1)))) : Option Bool)).bind fun y582 => 
cond y582 (
some (.inr z557.2)) (
(F41 k y581.2.2.1 z557.2).bind fun y583 => 
some (.inl y583.2))) (fun y580 =>
sel (fun y584 =>
(F40_3 k y584.1 y584.2.1 y584.2.2.1 y584.2.2.2.1 y584.2.2.2.2.1 y584.2.2.2.2.2).bind fun y586 => 
((cond (!y586.2.2.2) (
some true) (
cond (y586.1 != y554.1) (
some true) (
some (y586.2.1 != (IntKind.wrap .u32 z557.1)))) : Option Bool)).bind fun y587 => 
cond y587 (
some (.inr z557.2)) (
(F41 k y586.2.2.1 z557.2).bind fun y588 => 
some (.inl y588.2))) (fun y585 =>
(F40_4 k y585.1 y585.2.1 y585.2.2).bind fun y589 => 
((cond (!y589.2.2.2) (
some true) (
cond (y589.1 != y554.1) (
some true) (
some (y589.2.1 != (IntKind.wrap .u32 z557.1)))) : Option Bool)).bind fun y590 => 
cond y590 (
some (.inr z557.2)) (
(F41 k y589.2.2.1 z557.2).bind fun y591 => 
some (.inl y591.2))) y580) y575) y570) y568 : Option ((List Int) ⊕ (List Int)))).bind fun y592 => 
sel (fun y593 =>
some (.inl ((IntKind.wrap .i64 (z557.1 + 1)), y593))) (fun y594 =>
some (.inr (.inl y594))) y592) (
some (.inr (.inr z557.2)))
noncomputable def F17 (k : Nat) (x1 : (List (Int × Int × Int × ByteArray))) : Option (Int × Int × Int × (List (ByteArray × Bool × ByteArray)) × Int) :=
cond (decide ((x1.length : Int) < 2)) (
some (0, 0, 0, ([] : List (ByteArray × Bool × ByteArray)), 3)) (
(((ix x1 (IntKind.wrap .i64 ((x1.length : Int) - 1))).bind fun a11 =>
(F38 k a11.1 a11.2.1 a11.2.2.1 a11.2.2.2).bind fun y12 => 
sel (fun y13 =>
some (.inl ())) (fun y14 =>
sel (fun y15 =>
some (.inr (.inl (y15.1, y15.2.1)))) (fun y16 =>
sel (fun y17 =>
some (.inr (.inr (.inl (y17.1, y17.2.1, y17.2.2.1))))) (fun y18 =>
sel (fun y19 =>
some (.inr (.inr (.inr (.inl (y19.1, y19.2.1, y19.2.2.1, y19.2.2.2.1, y19.2.2.2.2.1, y19.2.2.2.2.2.1)))))) (fun y20 =>
some (.inr (.inr (.inr (.inr (y20.1, y20.2.1, y20.2.2.1)))))) y18) y16) y14) y12 : Option (Unit ⊕ (Int × Int) ⊕ (Int × Int × ByteArray) ⊕ (Int × Int × Int × Int × Int × Int) ⊕ (Int × Int × Int)))).bind fun y21 => 
sel (fun y22 =>
(F39 k).bind fun y25 => 
((cond (!y25.2.2.2.2.2.2) (
some true) (
some (y25.2.1 != (IntKind.wrap .u32 (IntKind.wrap .i64 ((x1.length : Int) - 1))))) : Option Bool)).bind fun y27 => 
cond y27 (
some (0, 0, 0, ([] : List (ByteArray × Bool × ByteArray)), 2)) (
grd (bnds (x1.length : Int) 0 (IntKind.wrap .i64 ((x1.length : Int) - 1))) <|
(loopN (L17_30 k x1 y25) k (0, ([] : List Int))).bind fun y376 => 
sel (fun y377 =>
some (0, 0, 0, ([] : List (ByteArray × Bool × ByteArray)), 2)) (fun y378 =>
(((F42 k y378).bind fun y386 => 
cond ((IntKind.wrap .u32 y386) != y25.2.2.2.2.2.1) (
some (true, y378)) (
(F43 k y378).bind fun y387 => 
(F31 k [y387.1]).bind fun y388 => 
some ((y388 != y25.2.2.2.2.1), y387.2)) : Option (Bool × (List Int)))).bind fun y389 => 
cond y389.1 (
some (0, 0, 0, ([] : List (ByteArray × Bool × ByteArray)), 5)) (
(F43_1 k y389.2).bind fun y392 => 
(F44 k y392.1).bind fun y393 => 
cond (y393.2 != 0) (
some (0, 0, 0, ([] : List (ByteArray × Bool × ByteArray)), y393.2)) (
some (y25.1, y25.2.2.1, y25.2.2.2.1, y393.1, 0)))) y376)) (fun y23 =>
sel (fun y394 =>
(F39_1 k y394.1 y394.2).bind fun y397 => 
((cond (!y397.2.2.2.2.2.2) (
some true) (
some (y397.2.1 != (IntKind.wrap .u32 (IntKind.wrap .i64 ((x1.length : Int) - 1))))) : Option Bool)).bind fun y399 => 
cond y399 (
some (0, 0, 0, ([] : List (ByteArray × Bool × ByteArray)), 2)) (
grd (bnds (x1.length : Int) 0 (IntKind.wrap .i64 ((x1.length : Int) - 1))) <|
(loopN (L17_30 k x1 y397) k (0, ([] : List Int))).bind fun y438 => 
sel (fun y439 =>
some (0, 0, 0, ([] : List (ByteArray × Bool × ByteArray)), 2)) (fun y440 =>
(((F42 k y440).bind fun y441 => 
cond ((IntKind.wrap .u32 y441) != y397.2.2.2.2.2.1) (
some (true, y440)) (
(F43 k y440).bind fun y442 => 
(F31 k [y442.1]).bind fun y443 => 
some ((y443 != y397.2.2.2.2.1), y442.2)) : Option (Bool × (List Int)))).bind fun y444 => 
cond y444.1 (
some (0, 0, 0, ([] : List (ByteArray × Bool × ByteArray)), 5)) (
(F43_1 k y444.2).bind fun y445 => 
(F44 k y445.1).bind fun y446 => 
cond (y446.2 != 0) (
some (0, 0, 0, ([] : List (ByteArray × Bool × ByteArray)), y446.2)) (
some (y397.1, y397.2.2.1, y397.2.2.2.1, y446.1, 0)))) y438)) (fun y395 =>
sel (fun y447 =>
(F39_2 k y447.1 y447.2.1 y447.2.2).bind fun y450 => 
((cond (!y450.2.2.2.2.2.2) (
some true) (
some (y450.2.1 != (IntKind.wrap .u32 (IntKind.wrap .i64 ((x1.length : Int) - 1))))) : Option Bool)).bind fun y452 => 
cond y452 (
some (0, 0, 0, ([] : List (ByteArray × Bool × ByteArray)), 2)) (
grd (bnds (x1.length : Int) 0 (IntKind.wrap .i64 ((x1.length : Int) - 1))) <|
(loopN (L17_30 k x1 y450) k (0, ([] : List Int))).bind fun y491 => 
sel (fun y492 =>
some (0, 0, 0, ([] : List (ByteArray × Bool × ByteArray)), 2)) (fun y493 =>
(((F42 k y493).bind fun y494 => 
cond ((IntKind.wrap .u32 y494) != y450.2.2.2.2.2.1) (
some (true, y493)) (
(F43 k y493).bind fun y495 => 
(F31 k [y495.1]).bind fun y496 => 
some ((y496 != y450.2.2.2.2.1), y495.2)) : Option (Bool × (List Int)))).bind fun y497 => 
cond y497.1 (
some (0, 0, 0, ([] : List (ByteArray × Bool × ByteArray)), 5)) (
(F43_1 k y497.2).bind fun y498 => 
(F44 k y498.1).bind fun y499 => 
cond (y499.2 != 0) (
some (0, 0, 0, ([] : List (ByteArray × Bool × ByteArray)), y499.2)) (
some (y450.1, y450.2.2.1, y450.2.2.2.1, y499.1, 0)))) y491)) (fun y448 =>
sel (fun y500 =>
(F39_3 k y500.1 y500.2.1 y500.2.2.1 y500.2.2.2.1 y500.2.2.2.2.1 y500.2.2.2.2.2).bind fun y503 => 
((cond (!y503.2.2.2.2.2.2) (
some true) (
some (y503.2.1 != (IntKind.wrap .u32 (IntKind.wrap .i64 ((x1.length : Int) - 1))))) : Option Bool)).bind fun y505 => 
cond y505 (
some (0, 0, 0, ([] : List (ByteArray × Bool × ByteArray)), 2)) (
grd (bnds (x1.length : Int) 0 (IntKind.wrap .i64 ((x1.length : Int) - 1))) <|
(loopN (L17_30 k x1 y503) k (0, ([] : List Int))).bind fun y544 => 
sel (fun y545 =>
some (0, 0, 0, ([] : List (ByteArray × Bool × ByteArray)), 2)) (fun y546 =>
(((F42 k y546).bind fun y547 => 
cond ((IntKind.wrap .u32 y547) != y503.2.2.2.2.2.1) (
some (true, y546)) (
(F43 k y546).bind fun y548 => 
(F31 k [y548.1]).bind fun y549 => 
some ((y549 != y503.2.2.2.2.1), y548.2)) : Option (Bool × (List Int)))).bind fun y550 => 
cond y550.1 (
some (0, 0, 0, ([] : List (ByteArray × Bool × ByteArray)), 5)) (
(F43_1 k y550.2).bind fun y551 => 
(F44 k y551.1).bind fun y552 => 
cond (y552.2 != 0) (
some (0, 0, 0, ([] : List (ByteArray × Bool × ByteArray)), y552.2)) (
some (y503.1, y503.2.2.1, y503.2.2.2.1, y552.1, 0)))) y544)) (fun y501 =>
(F39_4 k y501.1 y501.2.1 y501.2.2).bind fun y554 => 
((cond (!y554.2.2.2.2.2.2) (
some true) (
some (y554.2.1 != (IntKind.wrap .u32 (IntKind.wrap .i64 ((x1.length : Int) - 1))))) : Option Bool)).bind fun y556 => 
cond y556 (
some (0, 0, 0, ([] : List (ByteArray × Bool × ByteArray)), 2)) (
grd (bnds (x1.length : Int) 0 (IntKind.wrap .i64 ((x1.length : Int) - 1))) <|
(loopN (L17_30 k x1 y554) k (0, ([] : List Int))).bind fun y595 => 
sel (fun y596 =>
some (0, 0, 0, ([] : List (ByteArray × Bool × ByteArray)), 2)) (fun y597 =>
(((F42 k y597).bind fun y598 => 
cond ((IntKind.wrap .u32 y598) != y554.2.2.2.2.2.1) (
some (true, y597)) (
(F43 k y597).bind fun y599 => 
(F31 k [y599.1]).bind fun y600 => 
some ((y600 != y554.2.2.2.2.1), y599.2)) : Option (Bool × (List Int)))).bind fun y601 => 
cond y601.1 (
some (0, 0, 0, ([] : List (ByteArray × Bool × ByteArray)), 5)) (
(F43_1 k y601.2).bind fun y602 => 
(F44 k y602.1).bind fun y603 => 
cond (y603.2 != 0) (
some (0, 0, 0, ([] : List (ByteArray × Bool × ByteArray)), y603.2)) (
some (y554.1, y554.2.2.1, y554.2.2.2.1, y603.1, 0)))) y595)) y448) y395) y23) y21)
def A17 : CTpl := ⟨[.fz .u (.int .i64 (.int .u32 (.int .u32 (.str .nil))))], []⟩
def h17 : List HTy := [.tl (.int .i64 (.int .u32 (.int .u32 (.str .nil))))]
def R17 : List RTpl := [⟨.tp [.ag [.i .u32, .i .u32, .i .u32, .fz .u (.str (.bool (.str .nil)))], .i .i64], [], [.ti, .ti, .ti, .tl (.str (.bool (.str .nil))), .ti]⟩]
def n17 : An := .sq (.nd) (.sq (.nd) (.sq (.nd) (.jn [0, 2, 4] [2] [(0, ⟨[(5, .c (.nilIface))], []⟩), (0, ⟨[(5, .ifc 98 (.ag [.i .u32, .i .u32]))], []⟩), (0, ⟨[(5, .ifc 63 (.ag [.i .u32, .i .u32, .s]))], []⟩), (0, ⟨[(5, .ifc 66 (.ag [.i .u32, .i .u32, .i .u32, .i .u32, .i .u32, .i .u32]))], []⟩), (0, ⟨[(5, .ifc 100 (.ag [.i .u32, .i .u32, .i .u32]))], []⟩)] [[], [.ti, .ti], [.ti, .ti, .ts], [.ti, .ti, .ti, .ti, .ti, .ti], [.ti, .ti, .ti]] (.nd) (.sq (.nd) (.sq (.jn [0, 2, 4, 7] [2, 7] [(0, ⟨[(46, .b)], []⟩)] [[.tb]] (.nd) (.nd)) (.sq (.nd) (.sq (.sq (.nd) (.lp [2, 7, 9, 50, 51] [7] ⟨[(52, .i .i64)], [(2, .bx 27 [.li .u32 0, .li .u32 0, .li .u32 0, .c (.slice none 0 0)]), (9, .bx 77 [.sp 9, .sl .u 301500]), (301500, .ar 5 (.int .u8 .nil))]⟩ [.ti, .tl (.int .u8 .nil)] [(1, ⟨[(3, .li .i64 2)], [(2, .bx 27 [.li .u32 0, .li .u32 0, .li .u32 0, .c (.slice none 0 0)]), (9, .bx 77 [.sp 9, .sl .u 301525]), (301525, .ar 5 (.int .u8 .nil))]⟩), (2, ⟨[], [(2, .bx 27 [.li .u32 0, .li .u32 0, .li .u32 0, .c (.slice none 0 0)]), (9, .bx 77 [.sp 9, .sl .u 301535]), (301535, .ar 5 (.int .u8 .nil))]⟩)] [[.tl (.int .u8 .nil)], [.tl (.int .u8 .nil)]] (.sq (.nd) (.sq (.nd) (.jn [52] [] [(0, ⟨[], [(2, .bx 27 [.li .u32 0, .li .u32 0, .li .u32 0, .c (.slice none 0 0)]), (9, .bx 77 [.sp 9, .sl .u 301850]), (301850, .ar 5 (.int .u8 .nil))]⟩), (1, ⟨[(3, .li .i64 2)], [(2, .bx 27 [.li .u32 0, .li .u32 0, .li .u32 0, .c (.slice none 0 0)]), (9, .bx 77 [.sp 9, .sl .u 301500]), (301500, .ar 5 (.int .u8 .nil))]⟩)] [[.tl (.int .u8 .nil)], [.tl (.int .u8 .nil)]] (.sq (.nd) (.jn [10] [2, 9, 301500] [(0, ⟨[(12, .c (.nilIface))], []⟩), (0, ⟨[(12, .ifc 98 (.ag [.i .u32, .i .u32]))], []⟩), (0, ⟨[(12, .ifc 63 (.ag [.i .u32, .i .u32, .s]))], []⟩), (0, ⟨[(12, .ifc 66 (.ag [.i .u32, .i .u32, .i .u32, .i .u32, .i .u32, .i .u32]))], []⟩), (0, ⟨[(12, .ifc 100 (.ag [.i .u32, .i .u32, .i .u32]))], []⟩)] [[], [.ti, .ti], [.ti, .ti, .ts], [.ti, .ti, .ti, .ti, .ti, .ti], [.ti, .ti, .ti]] (.nd) (.sq (.nd) (.sq (.jn [14] [2, 9, 14, 301500] [(0, ⟨[(82, .b)], []⟩)] [[.tb]] (.nd) (.nd)) (.nd))))) (.nd)))))) (.sq (.jn [2, 7, 9] [2, 7, 9] [(0, ⟨[(100, .b)], [(301535, .ar 2000005 (.int .u8 .nil))]⟩)] [[.tb, .tl (.int .u8 .nil)]] (.mk [] [0, 1, 0, 4, 15, 31, 63, 127, 255, 63, 575, 2047, 4095]) (.nd)) (.nd)))))))))
theorem e17 (k : Nat) (hm : Mo.m = false) (y : Tup h17) : exec (P := Tryd.prog) D (lk rowsL) [C38 k, C39 k, C40 k, C41 k, C40_1 k, C40_2 k, C40_3 k, C40_4 k, C42 k, C43 k, C31 k, C43_1 k, C44 k hm, C39_1 k, C39_2 k, C39_3 k, C39_4 k] k (bodyOf Tryd.f17) n17 (fnE Tryd.f17 A17 [] (inOf A17 (ofTup h17 y))) (fnSt [] (inOf A17 (ofTup h17 y))) (leafR D (fnE Tryd.f17 A17 [] (inOf A17 (ofTup h17 y))) Tryd.f17.results.toList (R17.map (·.h)) R17) = F17 k y := by kernel_rfl
noncomputable def C17 (k : Nat) (hm : Mo.m = false) : Con Tryd.prog := ⟨17, Tryd.f17, Tryd.func17, by kernel_rfl, by kernel_rfl, A17, h17, [], R17, fun y => F17 k y, fun y r h => con_ok good mixed (c := bodyOf Tryd.f17) Tryd.func17 (by kernel_rfl) n17 y ((e17 k hm y).trans h)⟩
noncomputable def F15 (k : Nat) : Option Bool :=
(((F13 k 32 4 4 2 1 2 [((⟨#[97]⟩ : ByteArray), false, (⟨#[98]⟩ : ByteArray))]).bind fun y4 => 
sel (fun y5 =>
some (y5, ([] : List (Int × Int × Int × ByteArray)))) (fun y6 =>
some (y6.1, y6.2)) y4 : Option (Int × (List (Int × Int × Int × ByteArray))))).bind fun y7 => 
(F17 k y7.2).bind fun y9 => 
cond (y7.1 == 0) (
cond ((y7.2.length : Int) == 2) (
cond (y9.2.2.2.2 == 0) (
cond (y9.1 == 2) (
cond (y9.2.1 == 1) (
cond (y9.2.2.1 == 2) (
some ((y9.2.2.2.1.length : Int) == 1)) (
some false)) (
some false)) (
some false)) (
some false)) (
some false)) (
some false)
def A15 : CTpl := ⟨[], []⟩
def h15 : List HTy := []
def R15 : List RTpl := [⟨.b, [], [.tb]⟩]
def n15 : An := .sq (.nd) (.sq (.nd) (.jn [] [] [(0, ⟨[(2, .sl .u 300200), (3, .i .i64)], [(300200, .ar 43 (.int .i64 (.int .u32 (.int .u32 (.str .nil)))))]⟩)] [[.ti, .tl (.int .i64 (.int .u32 (.int .u32 (.str .nil))))]] (.fr [(4, 10)]) (.sq (.fr [(1, 300200)]) (.nd))))
theorem e15 (k : Nat) (hm : Mo.m = false) (y : Tup h15) : exec (P := Tryd.prog) D (lk rowsL) [C13 k hm, C17 k hm] k (bodyOf Tryd.f15) n15 (fnE Tryd.f15 A15 [] (inOf A15 (ofTup h15 y))) (fnSt [] (inOf A15 (ofTup h15 y))) (leafR D (fnE Tryd.f15 A15 [] (inOf A15 (ofTup h15 y))) Tryd.f15.results.toList (R15.map (·.h)) R15) = F15 k := by kernel_rfl
noncomputable def C15 (k : Nat) (hm : Mo.m = false) : Con Tryd.prog := ⟨15, Tryd.f15, Tryd.func15, by kernel_rfl, by kernel_rfl, A15, h15, [], R15, fun y => F15 k, fun y r h => con_ok good mixed (c := bodyOf Tryd.f15) Tryd.func15 (by kernel_rfl) n15 y ((e15 k hm y).trans h)⟩
noncomputable def L16_14 (k : Nat) (x1 : (List (Int × Int × Int × ByteArray))) (x2 : (List (Int × Int × Int × ByteArray))) (z20 : Int) : Option (Int ⊕ (Unit ⊕ Unit)) :=
cond (decide (z20 < (x1.length : Int))) (
(ix x1 z20).bind fun a21 =>
(ix x2 z20).bind fun a22 =>
(x2[z20.toNat]?).bind fun a23 =>
cond (!((a21.1 == a23.1) && ((a21.2.1 == a23.2.1) && ((a21.2.2.1 == a23.2.2.1) && ((a21.2.2.2.toList == a23.2.2.2.toList) && true))))) (
some (.inr (.inl ()))) (
some (.inl (IntKind.wrap .i64 (z20 + 1))))) (
some (.inr (.inr ())))
noncomputable def F16 (k : Nat) (x1 : (List (Int × Int × Int × ByteArray))) (x2 : (List (Int × Int × Int × ByteArray))) : Option Bool :=
cond ((x1.length : Int) != (x2.length : Int)) (
some false) (
(loopN (L16_14 k x1 x2) k 0).bind fun y24 => 
sel (fun y25 =>
some false) (fun y26 =>
some true) y24)
def A16 : CTpl := ⟨[.fz .u (.int .i64 (.int .u32 (.int .u32 (.str .nil)))), .sl .u 1000000], [(1000000, .ar 43 (.int .i64 (.int .u32 (.int .u32 (.str .nil)))))]⟩
def h16 : List HTy := [.tl (.int .i64 (.int .u32 (.int .u32 (.str .nil)))), .tl (.int .i64 (.int .u32 (.int .u32 (.str .nil))))]
def R16 : List RTpl := [⟨.b, [], [.tb]⟩]
def n16 : An := .sq (.nd) (.sq (.nd) (.sq (.sq (.nd) (.lp [0, 1] [] ⟨[(5, .i .i64)], []⟩ [.ti] [(1, ⟨[(4, .lb false)], []⟩), (2, ⟨[], []⟩)] [[], []] (.sq (.nd) (.sq (.sq (.mk [] [0, 0, 3, 7, 0, 0, 48, 112, 255]) (.nd)) (.nd))))) (.nd)))
theorem e16 (k : Nat) (y : Tup h16) : exec (P := Tryd.prog) D (lk rowsL) [] k (bodyOf Tryd.f16) n16 (fnE Tryd.f16 A16 [1000000] (inOf A16 (ofTup h16 y))) (fnSt [1000000] (inOf A16 (ofTup h16 y))) (leafR D (fnE Tryd.f16 A16 [1000000] (inOf A16 (ofTup h16 y))) Tryd.f16.results.toList (R16.map (·.h)) R16) = F16 k y.1 y.2 := by kernel_rfl
noncomputable def C16 (k : Nat) : Con Tryd.prog := ⟨16, Tryd.f16, Tryd.func16, by kernel_rfl, by kernel_rfl, A16, h16, [1000000], R16, fun y => F16 k y.1 y.2, fun y r h => con_ok good mixed (c := bodyOf Tryd.f16) Tryd.func16 (by kernel_rfl) n16 y ((e16 k y).trans h)⟩
noncomputable def L16_1_14 (k : Nat) (x1 : (List (Int × Int × Int × ByteArray))) (x2 : (List (Int × Int × Int × ByteArray))) (z15 : Int) : Option (Int ⊕ (Unit ⊕ Unit)) :=
cond (decide (z15 < (x1.length : Int))) (
(ix x1 z15).bind fun a16 =>
(ix x2 z15).bind fun a17 =>
cond (!((a16.1 == a17.1) && ((a16.2.1 == a17.2.1) && ((a16.2.2.1 == a17.2.2.1) && ((a16.2.2.2.toList == a17.2.2.2.toList) && true))))) (
some (.inr (.inl ()))) (
some (.inl (IntKind.wrap .i64 (z15 + 1))))) (
some (.inr (.inr ())))
noncomputable def F16_1 (k : Nat) (x1 : (List (Int × Int × Int × ByteArray))) (x2 : (List (Int × Int × Int × ByteArray))) : Option Bool :=
cond ((x1.length : Int) != (x2.length : Int)) (
some false) (
(loopN (L16_1_14 k x1 x2) k 0).bind fun y18 => 
sel (fun y19 =>
some false) (fun y20 =>
some true) y18)
def A16_1 : CTpl := ⟨[.fz .u (.int .i64 (.int .u32 (.int .u32 (.str .nil)))), .fz .u (.int .i64 (.int .u32 (.int .u32 (.str .nil))))], []⟩
def h16_1 : List HTy := [.tl (.int .i64 (.int .u32 (.int .u32 (.str .nil)))), .tl (.int .i64 (.int .u32 (.int .u32 (.str .nil))))]
def R16_1 : List RTpl := [⟨.b, [], [.tb]⟩]
def n16_1 : An := .sq (.nd) (.sq (.nd) (.sq (.sq (.nd) (.lp [0, 1] [] ⟨[(5, .i .i64)], []⟩ [.ti] [(1, ⟨[(4, .lb false)], []⟩), (2, ⟨[], []⟩)] [[], []] (.sq (.nd) (.sq (.sq (.mk [] [0, 0, 3, 7, 0, 0, 48, 112, 255]) (.nd)) (.nd))))) (.nd)))
theorem e16_1 (k : Nat) (y : Tup h16_1) : exec (P := Tryd.prog) D (lk rowsL) [] k (bodyOf Tryd.f16) n16_1 (fnE Tryd.f16 A16_1 [] (inOf A16_1 (ofTup h16_1 y))) (fnSt [] (inOf A16_1 (ofTup h16_1 y))) (leafR D (fnE Tryd.f16 A16_1 [] (inOf A16_1 (ofTup h16_1 y))) Tryd.f16.results.toList (R16_1.map (·.h)) R16_1) = F16_1 k y.1 y.2 := by kernel_rfl
noncomputable def C16_1 (k : Nat) : Con Tryd.prog := ⟨16, Tryd.f16, Tryd.func16, by kernel_rfl, by kernel_rfl, A16_1, h16_1, [], R16_1, fun y => F16_1 k y.1 y.2, fun y r h => con_ok good mixed (c := bodyOf Tryd.f16) Tryd.func16 (by kernel_rfl) n16_1 y ((e16_1 k y).trans h)⟩
noncomputable def F3 (k : Nat) (x1 : Int) (x2 : Int) (x3 : Int) (x4 : Int) (x5 : Int) (x6 : Int) (x7 : (List (ByteArray × Bool × ByteArray))) (x8 : Bool) (x9 : Bool) : Option Bool :=
((cond x8 (
(F10 k x1 x2 x3).bind fun y2 => 
some (y2.1, y2.2.1, y2.2.2)) (
some (x1, x2, x3)) : Option (Int × Int × Int))).bind fun y3 => 
(F11 k x7 12).bind fun y5 => 
((cond x9 (
(F12 k x4 x5 x6 y5).bind fun y7 => 
some (y3.1, y3.2.1, y3.2.2, y7.1, y7.2.1, y7.2.2.1, y7.2.2.2)) (
some (y3.1, y3.2.1, y3.2.2, x4, x5, x6, y5)) : Option (Int × Int × Int × Int × Int × Int × (List (ByteArray × Bool × ByteArray))))).bind fun y8 => 
(((F13 k y8.1 y8.2.1 y8.2.2.1 y8.2.2.2.1 y8.2.2.2.2.1 y8.2.2.2.2.2.1 y8.2.2.2.2.2.2).bind fun y12 => 
sel (fun y13 =>
some (y13, ([] : List (Int × Int × Int × ByteArray)))) (fun y14 =>
some (y14.1, y14.2)) y12 : Option (Int × (List (Int × Int × Int × ByteArray))))).bind fun y15 => 
(((F14 k y8.1 y8.2.1 y8.2.2.1 y8.2.2.2.1 y8.2.2.2.2.1 y8.2.2.2.2.2.1 y8.2.2.2.2.2.2).bind fun y19 => 
sel (fun y20 =>
some (y20, ([] : List (Int × Int × Int × ByteArray)))) (fun y21 =>
some (y21.1, y21.2)) y19 : Option (Int × (List (Int × Int × Int × ByteArray))))).bind fun y22 => 
(F15 k).bind fun y23 => 
cond y23 (
cond (y15.1 == y22.1) (
(F16_1 k y15.2 y22.2).bind fun y24 => 
some y24) (
some false)) (
some false)
def A3 : CTpl := ⟨[.ag [.i .i64, .i .i64, .i .i64], .ag [.i .u32, .i .u32, .i .u32, .fz .u (.str (.bool (.str .nil)))], .b, .b], []⟩
def h3 : List HTy := [.ti, .ti, .ti, .ti, .ti, .ti, .tl (.str (.bool (.str .nil))), .tb, .tb]
def R3 : List RTpl := [⟨.b, [], [.tb]⟩]
def n3 : An := .sq (.nd) (.jn [3, 4, 5] [5] [(0, ⟨[], [(4, .bx 23 [.i .i64, .i .i64, .i .i64])]⟩)] [[.ti, .ti, .ti]] (.nd) (.sq (.nd) (.jn [4, 5] [] [(0, ⟨[], [(4, .bx 23 [.i .i64, .i .i64, .i .i64]), (5, .bx 27 [.i .u32, .i .u32, .i .u32, .fz .u (.str (.bool (.str .nil)))])]⟩)] [[.ti, .ti, .ti, .ti, .ti, .ti, .tl (.str (.bool (.str .nil)))]] (.sq (.nd) (.sq (.fr [(1, 401800)]) (.nd))) (.jn [4, 5] [4, 5] [(0, ⟨[(9, .sl .u 300800), (10, .i .i64)], [(300800, .ar 43 (.int .i64 (.int .u32 (.int .u32 (.str .nil)))))]⟩)] [[.ti, .tl (.int .i64 (.int .u32 (.int .u32 (.str .nil))))]] (.nd) (.jn [9, 10] [300800] [(0, ⟨[(11, .sl .u 300900), (12, .i .i64)], [(300900, .ar 43 (.int .i64 (.int .u32 (.int .u32 (.str .nil)))))]⟩)] [[.ti, .tl (.int .i64 (.int .u32 (.int .u32 (.str .nil))))]] (.nd) (.sq (.fr [(9, 300800), (9, 300900)]) (.nd)))))))
theorem e3 (k : Nat) (hm : Mo.m = false) (y : Tup h3) : exec (P := Tryd.prog) D (lk rowsL) [C10 k, C11 k, C12 k, C13 k hm, C14 k, C15 k hm, C16_1 k] k (bodyOf Tryd.f3) n3 (fnE Tryd.f3 A3 [] (inOf A3 (ofTup h3 y))) (fnSt [] (inOf A3 (ofTup h3 y))) (leafR D (fnE Tryd.f3 A3 [] (inOf A3 (ofTup h3 y))) Tryd.f3.results.toList (R3.map (·.h)) R3) = F3 k y.1 y.2.1 y.2.2.1 y.2.2.2.1 y.2.2.2.2.1 y.2.2.2.2.2.1 y.2.2.2.2.2.2.1 y.2.2.2.2.2.2.2.1 y.2.2.2.2.2.2.2.2 := by kernel_rfl
noncomputable def C3 (k : Nat) (hm : Mo.m = false) : Con Tryd.prog := ⟨3, Tryd.f3, Tryd.func3, by kernel_rfl, by kernel_rfl, A3, h3, [], R3, fun y => F3 k y.1 y.2.1 y.2.2.1 y.2.2.2.1 y.2.2.2.2.1 y.2.2.2.2.2.1 y.2.2.2.2.2.2.1 y.2.2.2.2.2.2.2.1 y.2.2.2.2.2.2.2.2, fun y r h => con_ok good mixed (c := bodyOf Tryd.f3) Tryd.func3 (by kernel_rfl) n3 y ((e3 k hm y).trans h)⟩
noncomputable def F46 (k : Nat) (x1 : ByteArray) (x2 : Int) : Option Int :=
grd (decide (0 ≤ x2 ∧ x2 < (x1.size : Int))) <|
grd (decide (0 ≤ (IntKind.wrap .i64 (x2 + 1)) ∧ (IntKind.wrap .i64 (x2 + 1)) < (x1.size : Int))) <|
grd (decide (0 ≤ (IntKind.wrap .i64 (x2 + 2)) ∧ (IntKind.wrap .i64 (x2 + 2)) < (x1.size : Int))) <|
grd (decide (0 ≤ (IntKind.wrap .i64 (x2 + 3)) ∧ (IntKind.wrap .i64 (x2 + 3)) < (x1.size : Int))) <|
some (bits .or .u32 (bits .or .u32 (bits .or .u32 (IntKind.wrap .u32 (bt x1 x2)) (IntKind.wrap .u32 ((IntKind.wrap .u32 (bt x1 (IntKind.wrap .i64 (x2 + 1)))) * 2 ^ 8))) (IntKind.wrap .u32 ((IntKind.wrap .u32 (bt x1 (IntKind.wrap .i64 (x2 + 2)))) * 2 ^ 16))) (IntKind.wrap .u32 ((IntKind.wrap .u32 (bt x1 (IntKind.wrap .i64 (x2 + 3)))) * 2 ^ 24)))
def A46 : CTpl := ⟨[.s, .i .i64], []⟩
def h46 : List HTy := [.ts, .ti]
def R46 : List RTpl := [⟨.i .u32, [], [.ti]⟩]
def n46 : An := .sq (.nd) (.sq (.mk [] [0, 0, 3, 7, 0, 0, 32, 112, 240, 496, 1023, 0, 0, 4096, 14336, 30720, 63488, 131071, 0, 0, 524288, 1835008, 3932160, 8126464, 16777215, 33554431]) (.nd))
theorem e46 (k : Nat) (y : Tup h46) : exec (P := Tryd.prog) D (lk rowsL) [] k (bodyOf Tryd.f46) n46 (fnE Tryd.f46 A46 [] (inOf A46 (ofTup h46 y))) (fnSt [] (inOf A46 (ofTup h46 y))) (leafR D (fnE Tryd.f46 A46 [] (inOf A46 (ofTup h46 y))) Tryd.f46.results.toList (R46.map (·.h)) R46) = F46 k y.1 y.2 := by kernel_rfl
noncomputable def C46 (k : Nat) : Con Tryd.prog := ⟨46, Tryd.f46, Tryd.func46, by kernel_rfl, by kernel_rfl, A46, h46, [], R46, fun y => F46 k y.1 y.2, fun y r h => con_ok good mixed (c := bodyOf Tryd.f46) Tryd.func46 (by kernel_rfl) n46 y ((e46 k y).trans h)⟩
noncomputable def F45 (k : Nat) (x1 : Int) (x2 : Int) (x3 : Int) (x4 : ByteArray) : Option Bool :=
((cond (decide (x2 < 1)) (
some true) (
some (decide (2147483647 < x2))) : Option Bool)).bind fun y2 => 
cond y2 (
some false) (
cond (x1 == 1) (
some (x4.toList == (⟨#[]⟩ : ByteArray).toList)) (
cond (x1 == 2) (
some (!(x4.toList == (⟨#[]⟩ : ByteArray).toList))) (
cond (x1 == 3) (
cond (x3 != 0) (
cond ((x4.size : Int) == 16) (
(F46 k x4 0).bind fun y8 => 
cond (decide (y8 < x2)) (
(F46 k x4 4).bind fun y9 => 
cond (decide (1 ≤ y9)) (
(F46 k x4 4).bind fun y10 => 
cond (decide (y10 ≤ x2)) (
(F46 k x4 12).bind fun y11 => 
some (y11 != 0)) (
some false)) (
some false)) (
some false)) (
some false)) (
some false)) (
cond (x1 == 4) (
cond ((x4.size : Int) == 4) (
(F46 k x4 0).bind fun y12 => 
some (decide (y12 ≤ x2))) (
some false)) (
some false)))))
def A45 : CTpl := ⟨[.ag [.i .i64, .i .u32, .i .u32, .s]], []⟩
def h45 : List HTy := [.ti, .ti, .ti, .ts]
def R45 : List RTpl := [⟨.b, [], [.tb]⟩]
def n45 : An := .sq (.nd) (.sq (.jn [1] [1] [(0, ⟨[(10, .b)], []⟩)] [[.tb]] (.nd) (.nd)) (.sq (.sq (.nd) (.sq (.nd) (.sq (.nd) (.sq (.nd) (.sq (.nd) (.sq (.nd) (.sq (.sq (.mk [] [0, 1, 3, 7, 15, 31, 63, 127, 255, 511, 1023, 2047, 4095, 1023, 9215, 32767, 65535, 131071, 262143, 524287, 1048575, 2097151, 4194303, 8388607, 16777215, 33554431, 67108863, 16777215, 150994943, 536870911, 1073741823, 2147483647, 4294967295, 8589934591, 17179869183, 34359738367, 68719476735, 137438953471]) (.nd)) (.sq (.nd) (.sq (.sq (.mk [] [0, 1, 3, 7, 15, 31, 63, 127, 31, 287, 1023, 2047, 4095]) (.nd)) (.nd)))))))))) (.nd)))
theorem e45 (k : Nat) (y : Tup h45) : exec (P := Tryd.prog) D (lk rowsL) [C46 k] k (bodyOf Tryd.f45) n45 (fnE Tryd.f45 A45 [] (inOf A45 (ofTup h45 y))) (fnSt [] (inOf A45 (ofTup h45 y))) (leafR D (fnE Tryd.f45 A45 [] (inOf A45 (ofTup h45 y))) Tryd.f45.results.toList (R45.map (·.h)) R45) = F45 k y.1 y.2.1 y.2.2.1 y.2.2.2 := by kernel_rfl
noncomputable def C45 (k : Nat) : Con Tryd.prog := ⟨45, Tryd.f45, Tryd.func45, by kernel_rfl, by kernel_rfl, A45, h45, [], R45, fun y => F45 k y.1 y.2.1 y.2.2.1 y.2.2.2, fun y r h => con_ok good mixed (c := bodyOf Tryd.f45) Tryd.func45 (by kernel_rfl) n45 y ((e45 k y).trans h)⟩
noncomputable def L66_16 (k : Nat) (x1 : ByteArray) (z14 : (Int × Int × Int)) : Option ((Int × Int × Int) ⊕ (Int ⊕ (Int × Int))) :=
cond (decide (z14.2.2 < 5)) (
cond (decide ((x1.size : Int) ≤ z14.1)) (
some (.inr (.inl 3))) (
grd (decide (0 ≤ z14.1 ∧ z14.1 < (x1.size : Int))) <|
((cond (z14.2.2 == 4) (
cond (decide (15 < (bt x1 z14.1))) (
some true) (
cond ((bt x1 z14.1) == 0) (
some (decide (0 < z14.2.2))) (
some false))) (
cond ((bt x1 z14.1) == 0) (
some (decide (0 < z14.2.2))) (
some false)) : Option Bool)).bind fun y15 => 
cond y15 (
some (.inr (.inl 2))) (
grd (decide (0 ≤ (IntKind.wrap .u64 (IntKind.wrap .i64 (7 * z14.2.2))))) <|
cond (decide ((bt x1 z14.1) < 128)) (
some (.inr (.inr ((IntKind.wrap .i64 (z14.1 + 1)), (bits .or .u32 z14.2.1 (IntKind.wrap .u32 ((IntKind.wrap .u32 ((bt x1 z14.1).tmod 128)) * 2 ^ (min (IntKind.wrap .u64 (IntKind.wrap .i64 (7 * z14.2.2))).toNat 32)))))))) (
some (.inl ((IntKind.wrap .i64 (z14.1 + 1)), (bits .or .u32 z14.2.1 (IntKind.wrap .u32 ((IntKind.wrap .u32 ((bt x1 z14.1).tmod 128)) * 2 ^ (min (IntKind.wrap .u64 (IntKind.wrap .i64 (7 * z14.2.2))).toNat 32)))), (IntKind.wrap .i64 (z14.2.2 + 1)))))))) (
some (.inr (.inr (z14.1, z14.2.1))))
noncomputable def F66 (k : Nat) (x1 : ByteArray) (x2 : Int) : Option (Int × Int × Int) :=
((cond (decide (x2 < 0)) (
some true) (
some (decide ((x1.size : Int) < x2))) : Option Bool)).bind fun y2 => 
cond y2 (
some (0, 0, 1)) (
(loopN (L66_16 k x1) k (x2, 0, 0)).bind fun y16 => 
sel (fun y17 =>
some (0, 0, y17)) (fun y18 =>
some (y18.2, y18.1, 0)) y16)
def A66 : CTpl := ⟨[.s, .i .i64], []⟩
def h66 : List HTy := [.ts, .ti]
def R66 : List RTpl := [⟨.tp [.i .u32, .i .i64, .i .i64], [], [.ti, .ti, .ti]⟩]
def n66 : An := .sq (.nd) (.sq (.jn [0, 1] [] [(0, ⟨[(17, .b)], []⟩)] [[.tb]] (.nd) (.nd)) (.sq (.nd) (.sq (.sq (.nd) (.lp [0] [] ⟨[(1, .i .i64), (7, .i .u32), (8, .i .i64)], []⟩ [.ti, .ti, .ti] [(1, ⟨[(4, .li .u32 0), (5, .li .i64 0), (6, .i .i64)], []⟩), (2, ⟨[(1, .i .i64), (7, .i .u32)], []⟩)] [[.ti], [.ti, .ti]] (.sq (.nd) (.sq (.sq (.nd) (.sq (.nd) (.sq (.nd) (.sq (.jn [1, 7, 8, 9] [] [(0, ⟨[(44, .b)], []⟩)] [[.tb]] (.nd) (.nd)) (.nd))))) (.nd))))) (.nd))))
theorem e66 (k : Nat) (y : Tup h66) : exec (P := Tryd.prog) D (lk rowsL) [] k (bodyOf Tryd.f66) n66 (fnE Tryd.f66 A66 [] (inOf A66 (ofTup h66 y))) (fnSt [] (inOf A66 (ofTup h66 y))) (leafR D (fnE Tryd.f66 A66 [] (inOf A66 (ofTup h66 y))) Tryd.f66.results.toList (R66.map (·.h)) R66) = F66 k y.1 y.2 := by kernel_rfl
noncomputable def C66 (k : Nat) : Con Tryd.prog := ⟨66, Tryd.f66, Tryd.func66, by kernel_rfl, by kernel_rfl, A66, h66, [], R66, fun y => F66 k y.1 y.2, fun y r h => con_ok good mixed (c := bodyOf Tryd.f66) Tryd.func66 (by kernel_rfl) n66 y ((e66 k y).trans h)⟩
noncomputable def F67 (k : Nat) (x1 : ByteArray) (x2 : Int) (x3 : Int) : Option (ByteArray × Int × Int) :=
(F66 k x1 x2).bind fun y2 => 
cond (y2.2.2 != 0) (
some ((⟨#[]⟩ : ByteArray), 0, y2.2.2)) (
cond (decide ((mx x3 0) < (IntKind.wrap .i64 y2.1))) (
some ((⟨#[]⟩ : ByteArray), 0, 4)) (
cond (decide ((IntKind.wrap .i64 ((x1.size : Int) - y2.2.1)) < (IntKind.wrap .i64 y2.1))) (
some ((⟨#[]⟩ : ByteArray), 0, 3)) (
grd (bnds (x1.size : Int) y2.2.1 (IntKind.wrap .i64 (y2.2.1 + (IntKind.wrap .i64 y2.1)))) <|
some ((x1.extract y2.2.1.toNat ((IntKind.wrap .i64 (y2.2.1 + (IntKind.wrap .i64 y2.1))).toNat)), (IntKind.wrap .i64 (y2.2.1 + (IntKind.wrap .i64 y2.1))), 0))))
def A67 : CTpl := ⟨[.s, .i .i64, .i .i64], []⟩
def h67 : List HTy := [.ts, .ti, .ti]
def R67 : List RTpl := [⟨.tp [.s, .i .i64, .i .i64], [], [.ts, .ti, .ti]⟩]
def n67 : An := .nd
theorem e67 (k : Nat) (y : Tup h67) : exec (P := Tryd.prog) D (lk rowsL) [C66 k] k (bodyOf Tryd.f67) n67 (fnE Tryd.f67 A67 [] (inOf A67 (ofTup h67 y))) (fnSt [] (inOf A67 (ofTup h67 y))) (leafR D (fnE Tryd.f67 A67 [] (inOf A67 (ofTup h67 y))) Tryd.f67.results.toList (R67.map (·.h)) R67) = F67 k y.1 y.2.1 y.2.2 := by kernel_rfl
noncomputable def C67 (k : Nat) : Con Tryd.prog := ⟨67, Tryd.f67, Tryd.func67, by kernel_rfl, by kernel_rfl, A67, h67, [], R67, fun y => F67 k y.1 y.2.1 y.2.2, fun y r h => con_ok good mixed (c := bodyOf Tryd.f67) Tryd.func67 (by kernel_rfl) n67 y ((e67 k y).trans h)⟩
noncomputable def L47_26 (k : Nat) (x1 : ByteArray) (y2 : (Int × Int × Int)) (z35 : (Int × Int × (List (ByteArray × Bool × ByteArray)))) : Option ((Int × Int × (List (ByteArray × Bool × ByteArray))) ⊕ (Int ⊕ (Int × (List (ByteArray × Bool × ByteArray))))) :=
cond (decide (z35.2.1 < (IntKind.wrap .i64 y2.1))) (
cond (decide ((x1.size : Int) ≤ z35.1)) (
some (.inr (.inl 3))) (
grd (decide (0 ≤ z35.1 ∧ z35.1 < (x1.size : Int))) <|
cond (decide (1 < (bt x1 z35.1))) (
some (.inr (.inl 2))) (
grd (decide (0 ≤ z35.1 ∧ z35.1 < (x1.size : Int))) <|
(F67 k x1 (IntKind.wrap .i64 (z35.1 + 1)) 48).bind fun y36 => 
((((cond (y36.2.2 == 0) (
some (!((bt x1 z35.1) == 1))) (
some false) : Option Bool)).bind fun y37 => 
cond y37 (
(F67 k x1 y36.2.1 48).bind fun y38 => 
some (y38.2.1, y38.2.2, y36.1, ((bt x1 z35.1) == 1), y38.1)) (
some (y36.2.1, y36.2.2, y36.1, ((bt x1 z35.1) == 1), ByteArray.empty)) : Option (Int × Int × ByteArray × Bool × ByteArray))).bind fun y39 => 
cond (y39.2.1 != 0) (
some (.inr (.inl y39.2.1))) (
grd (decide ((z35.2.2.length + [(y39.2.2.1, y39.2.2.2.1, y39.2.2.2.2)].length) * 40 ≤ 140737488355328)) <|
some (.inl (y39.1, (IntKind.wrap .i64 (z35.2.1 + 1)), (z35.2.2 ++ [(y39.2.2.1, y39.2.2.2.1, y39.2.2.2.2)]))))))) (
some (.inr (.inr (z35.1, z35.2.2))))
noncomputable def F47 (k : Nat) (x1 : ByteArray) : Option ((List (ByteArray × Bool × ByteArray)) × Int) :=
(F66 k x1 0).bind fun y2 => 
cond (y2.2.2 != 0) (
some (([] : List (ByteArray × Bool × ByteArray)), y2.2.2)) (
((cond (decide (y2.1 < 1)) (
some true) (
some (decide (8 < y2.1))) : Option Bool)).bind fun y4 => 
cond y4 (
some (([] : List (ByteArray × Bool × ByteArray)), 12)) (
(loopN (L47_26 k x1 y2) k (y2.2.1, 0, ([] : List (ByteArray × Bool × ByteArray)))).bind fun y40 => 
sel (fun y41 =>
some (([] : List (ByteArray × Bool × ByteArray)), y41)) (fun y42 =>
cond (y42.1 != (x1.size : Int)) (
some (([] : List (ByteArray × Bool × ByteArray)), 2)) (
(F49 k y42.2).bind fun y45 => 
cond (y45 != 0) (
some (([] : List (ByteArray × Bool × ByteArray)), y45)) (
some (y42.2, 0)))) y40))
def A47 : CTpl := ⟨[.s], []⟩
def h47 : List HTy := [.ts]
def R47 : List RTpl := [⟨.tp [.fz .u (.str (.bool (.str .nil))), .i .i64], [], [.tl (.str (.bool (.str .nil))), .ti]⟩]
def n47 : An := .sq (.nd) (.sq (.nd) (.sq (.nd) (.sq (.jn [0, 4, 5] [] [(0, ⟨[(25, .b)], []⟩)] [[.tb]] (.nd) (.nd)) (.sq (.nd) (.sq (.sq (.nd) (.lp [0, 4] [] ⟨[(5, .i .i64), (7, .sl .n 301300), (8, .i .i64)], [(301300, .ar 57 (.str (.bool (.str .nil))))]⟩ [.ti, .ti, .tl (.str (.bool (.str .nil)))] [(1, ⟨[(2, .c (.slice none 0 0)), (3, .i .i64)], []⟩), (2, ⟨[(5, .i .i64), (7, .sl .n 301335)], [(301335, .ar 57 (.str (.bool (.str .nil))))]⟩)] [[.ti], [.ti, .tl (.str (.bool (.str .nil)))]] (.sq (.nd) (.sq (.sq (.nd) (.sq (.nd) (.sq (.nd) (.sq (.nd) (.jn [7, 8, 9] [301300] [(0, ⟨[(5, .i .i64), (6, .i .i64)], [(9, .bx 57 [.s, .b, .s])]⟩)] [[.ti, .ti, .ts, .tb, .ts]] (.jn [5, 6] [9] [(0, ⟨[(60, .b)], []⟩)] [[.tb]] (.nd) (.nd)) (.nd)))))) (.nd))))) (.sq (.nd) (.sq (.sq (.fr [(1, 301335)]) (.nd)) (.nd))))))))
theorem e47 (k : Nat) (y : Tup h47) : exec (P := Tryd.prog) D (lk rowsL) [C66 k, C67 k, C49 k] k (bodyOf Tryd.f47) n47 (fnE Tryd.f47 A47 [] (inOf A47 (ofTup h47 y))) (fnSt [] (inOf A47 (ofTup h47 y))) (leafR D (fnE Tryd.f47 A47 [] (inOf A47 (ofTup h47 y))) Tryd.f47.results.toList (R47.map (·.h)) R47) = F47 k y := by kernel_rfl
noncomputable def C47 (k : Nat) : Con Tryd.prog := ⟨47, Tryd.f47, Tryd.func47, by kernel_rfl, by kernel_rfl, A47, h47, [], R47, fun y => F47 k y, fun y r h => con_ok good mixed (c := bodyOf Tryd.f47) Tryd.func47 (by kernel_rfl) n47 y ((e47 k y).trans h)⟩
noncomputable def L18_14 (k : Nat) (x1 : (List (Int × Int × Int × ByteArray))) (z23 : Int) : Option (Int ⊕ (Unit ⊕ Unit)) :=
cond (decide (z23 < (x1.length : Int))) (
(ix x1 z23).bind fun a24 =>
(F45 k a24.1 a24.2.1 a24.2.2.1 a24.2.2.2).bind fun y25 => 
cond (!y25) (
some (.inr (.inl ()))) (
some (.inl (IntKind.wrap .i64 (z23 + 1))))) (
some (.inr (.inr ())))
noncomputable def L18_49 (k : Nat) (a29 : (Int × Int × Int × ByteArray)) (x1 : (List (Int × Int × Int × ByteArray))) (z82 : (ByteArray × Int)) : Option ((ByteArray × Int) ⊕ (Unit ⊕ ByteArray)) :=
cond (decide (z82.2 < (IntKind.wrap .i64 ((x1.length : Int) - 1)))) (
(((ix x1 z82.2).bind fun a83 =>
cond (a83.1 != 2) (
some true) (
(ix x1 z82.2).bind fun a84 =>
cond (a84.2.1 != a29.2.1) (
some true) (
(ix x1 z82.2).bind fun a85 =>
some (a85.2.2.1 != (IntKind.wrap .u32 z82.2)))) : Option Bool)).bind fun y86 => 
cond y86 (
some (.inr (.inl ()))) (
(ix x1 z82.2).bind fun a87 =>
grd (decide (z82.1.size + a87.2.2.2.size ≤ 9223372036854775807)) <|
some (.inl ((z82.1 ++ a87.2.2.2), (IntKind.wrap .i64 (z82.2 + 1)))))) (
some (.inr (.inr z82.1)))
noncomputable def F18 (k : Nat) (x1 : (List (Int × Int × Int × ByteArray))) : Option (Int × Int × Int × (List (ByteArray × Bool × ByteArray)) × Int) :=
cond (decide ((x1.length : Int) < 2)) (
some (0, 0, 0, ([] : List (ByteArray × Bool × ByteArray)), 3)) (
(loopN (L18_14 k x1) k 0).bind fun y26 => 
sel (fun y27 =>
some (0, 0, 0, ([] : List (ByteArray × Bool × ByteArray)), 2)) (fun y28 =>
(ix x1 (IntKind.wrap .i64 ((x1.length : Int) - 1))).bind fun a29 =>
((cond (a29.1 != 3) (
some true) (
some (a29.2.2.1 != (IntKind.wrap .u32 (IntKind.wrap .i64 ((x1.length : Int) - 1))))) : Option Bool)).bind fun y31 => 
cond y31 (
some (0, 0, 0, ([] : List (ByteArray × Bool × ByteArray)), 2)) (
(loopN (L18_49 k a29 x1) k ((⟨#[]⟩ : ByteArray), 0)).bind fun y88 => 
sel (fun y89 =>
some (0, 0, 0, ([] : List (ByteArray × Bool × ByteArray)), 2)) (fun y90 =>
(((F46 k a29.2.2.2 12).bind fun y98 => 
cond (y98 != (IntKind.wrap .u32 (y90.size : Int))) (
some true) (
(F46 k a29.2.2.2 8).bind fun y99 => 
(F37 k y90).bind fun y100 => 
some (y99 != y100)) : Option Bool)).bind fun y101 => 
cond y101 (
some (0, 0, 0, ([] : List (ByteArray × Bool × ByteArray)), 5)) (
(F47 k y90).bind fun y103 => 
cond (y103.2 != 0) (
some (0, 0, 0, ([] : List (ByteArray × Bool × ByteArray)), y103.2)) (
(F46 k a29.2.2.2 0).bind fun y104 => 
(F46 k a29.2.2.2 4).bind fun y105 => 
some (a29.2.1, y104, y105, y103.1, 0)))) y88)) y26)
def A18 : CTpl := ⟨[.fz .u (.int .i64 (.int .u32 (.int .u32 (.str .nil))))], []⟩
def h18 : List HTy := [.tl (.int .i64 (.int .u32 (.int .u32 (.str .nil))))]
def R18 : List RTpl := [⟨.tp [.ag [.i .u32, .i .u32, .i .u32, .fz .u (.str (.bool (.str .nil)))], .i .i64], [], [.ti, .ti, .ti, .tl (.str (.bool (.str .nil))), .ti]⟩]
def n18 : An := .sq (.nd) (.sq (.nd) (.sq (.sq (.nd) (.lp [0, 2] [] ⟨[(4, .i .i64)], [(2, .bx 27 [.li .u32 0, .li .u32 0, .li .u32 0, .c (.slice none 0 0)])]⟩ [.ti] [(1, ⟨[(3, .li .i64 2)], [(2, .bx 27 [.li .u32 0, .li .u32 0, .li .u32 0, .c (.slice none 0 0)])]⟩), (2, ⟨[], [(2, .bx 27 [.li .u32 0, .li .u32 0, .li .u32 0, .c (.slice none 0 0)])]⟩)] [[], []] (.nd))) (.sq (.nd) (.sq (.nd) (.sq (.jn [0, 2, 5, 6] [2, 6] [(0, ⟨[(44, .b)], []⟩)] [[.tb]] (.nd) (.nd)) (.sq (.nd) (.sq (.sq (.nd) (.lp [0, 2, 5, 6] [6] ⟨[(7, .s), (8, .i .i64)], [(2, .bx 27 [.li .u32 0, .li .u32 0, .li .u32 0, .c (.slice none 0 0)])]⟩ [.ts, .ti] [(1, ⟨[(3, .li .i64 2)], [(2, .bx 27 [.li .u32 0, .li .u32 0, .li .u32 0, .c (.slice none 0 0)])]⟩), (4, ⟨[(7, .s)], [(2, .bx 27 [.li .u32 0, .li .u32 0, .li .u32 0, .c (.slice none 0 0)])]⟩)] [[], [.ts]] (.sq (.nd) (.sq (.sq (.jn [7, 8] [2] [(0, ⟨[(76, .b)], []⟩)] [[.tb]] (.mk [] [0, 0, 3, 7, 15, 31, 63, 127, 127, 511, 1023, 2047, 127, 4223, 16383, 32767, 65535, 131071, 131071, 524287, 1048575, 2097151, 131071, 4325375, 16777215, 33554431]) (.nd)) (.nd)) (.nd))))) (.sq (.jn [2, 6, 7] [2, 6] [(0, ⟨[(99, .b)], []⟩)] [[.tb]] (.nd) (.nd)) (.sq (.nd) (.sq (.nd) (.sq (.mk [] [0, 1, 0, 4, 12, 0, 32, 124, 0, 511, 1023, 2047]) (.nd))))))))))))
theorem e18 (k : Nat) (y : Tup h18) : exec (P := Tryd.prog) D (lk rowsL) [C45 k, C46 k, C37 k, C47 k] k (bodyOf Tryd.f18) n18 (fnE Tryd.f18 A18 [] (inOf A18 (ofTup h18 y))) (fnSt [] (inOf A18 (ofTup h18 y))) (leafR D (fnE Tryd.f18 A18 [] (inOf A18 (ofTup h18 y))) Tryd.f18.results.toList (R18.map (·.h)) R18) = F18 k y := by kernel_rfl
noncomputable def C18 (k : Nat) : Con Tryd.prog := ⟨18, Tryd.f18, Tryd.func18, by kernel_rfl, by kernel_rfl, A18, h18, [], R18, fun y => F18 k y, fun y r h => con_ok good mixed (c := bodyOf Tryd.f18) Tryd.func18 (by kernel_rfl) n18 y ((e18 k y).trans h)⟩
noncomputable def L48_14 (k : Nat) (x1 : (List (ByteArray × Bool × ByteArray))) (x2 : (List (ByteArray × Bool × ByteArray))) (z15 : Int) : Option (Int ⊕ (Unit ⊕ Unit)) :=
cond (decide (z15 < (x1.length : Int))) (
(ix x1 z15).bind fun a16 =>
(ix x2 z15).bind fun a17 =>
cond (!((a16.1.toList == a17.1.toList) && ((a16.2.1 == a17.2.1) && ((a16.2.2.toList == a17.2.2.toList) && true)))) (
some (.inr (.inl ()))) (
some (.inl (IntKind.wrap .i64 (z15 + 1))))) (
some (.inr (.inr ())))
noncomputable def F48 (k : Nat) (x1 : (List (ByteArray × Bool × ByteArray))) (x2 : (List (ByteArray × Bool × ByteArray))) : Option Bool :=
cond ((x1.length : Int) != (x2.length : Int)) (
some false) (
(loopN (L48_14 k x1 x2) k 0).bind fun y18 => 
sel (fun y19 =>
some false) (fun y20 =>
some true) y18)
def A48 : CTpl := ⟨[.fz .u (.str (.bool (.str .nil))), .fz .u (.str (.bool (.str .nil)))], []⟩
def h48 : List HTy := [.tl (.str (.bool (.str .nil))), .tl (.str (.bool (.str .nil)))]
def R48 : List RTpl := [⟨.b, [], [.tb]⟩]
def n48 : An := .sq (.nd) (.sq (.nd) (.sq (.sq (.nd) (.lp [0, 1] [] ⟨[(5, .i .i64)], []⟩ [.ti] [(1, ⟨[(4, .lb false)], []⟩), (2, ⟨[], []⟩)] [[], []] (.sq (.nd) (.sq (.sq (.mk [] [0, 0, 3, 7, 0, 0, 48, 112, 255]) (.nd)) (.nd))))) (.nd)))
theorem e48 (k : Nat) (y : Tup h48) : exec (P := Tryd.prog) D (lk rowsL) [] k (bodyOf Tryd.f48) n48 (fnE Tryd.f48 A48 [] (inOf A48 (ofTup h48 y))) (fnSt [] (inOf A48 (ofTup h48 y))) (leafR D (fnE Tryd.f48 A48 [] (inOf A48 (ofTup h48 y))) Tryd.f48.results.toList (R48.map (·.h)) R48) = F48 k y.1 y.2 := by kernel_rfl
noncomputable def C48 (k : Nat) : Con Tryd.prog := ⟨48, Tryd.f48, Tryd.func48, by kernel_rfl, by kernel_rfl, A48, h48, [], R48, fun y => F48 k y.1 y.2, fun y r h => con_ok good mixed (c := bodyOf Tryd.f48) Tryd.func48 (by kernel_rfl) n48 y ((e48 k y).trans h)⟩
noncomputable def F19 (k : Nat) (x1 : Int) (x2 : Int) (x3 : Int) (x4 : (List (ByteArray × Bool × ByteArray))) (x5 : Int) (x6 : Int) (x7 : Int) (x8 : (List (ByteArray × Bool × ByteArray))) : Option Bool :=
cond (x1 == x5) (
cond (x2 == x6) (
cond (x3 == x7) (
(F48 k x4 x8).bind fun y1 => 
some y1) (
some false)) (
some false)) (
some false)
def A19 : CTpl := ⟨[.ag [.i .u32, .i .u32, .i .u32, .fz .u (.str (.bool (.str .nil)))], .ag [.i .u32, .i .u32, .i .u32, .fz .u (.str (.bool (.str .nil)))]], []⟩
def h19 : List HTy := [.ti, .ti, .ti, .tl (.str (.bool (.str .nil))), .ti, .ti, .ti, .tl (.str (.bool (.str .nil)))]
def R19 : List RTpl := [⟨.b, [], [.tb]⟩]
def n19 : An := .nd
theorem e19 (k : Nat) (y : Tup h19) : exec (P := Tryd.prog) D (lk rowsL) [C48 k] k (bodyOf Tryd.f19) n19 (fnE Tryd.f19 A19 [] (inOf A19 (ofTup h19 y))) (fnSt [] (inOf A19 (ofTup h19 y))) (leafR D (fnE Tryd.f19 A19 [] (inOf A19 (ofTup h19 y))) Tryd.f19.results.toList (R19.map (·.h)) R19) = F19 k y.1 y.2.1 y.2.2.1 y.2.2.2.1 y.2.2.2.2.1 y.2.2.2.2.2.1 y.2.2.2.2.2.2.1 y.2.2.2.2.2.2.2 := by kernel_rfl
noncomputable def C19 (k : Nat) : Con Tryd.prog := ⟨19, Tryd.f19, Tryd.func19, by kernel_rfl, by kernel_rfl, A19, h19, [], R19, fun y => F19 k y.1 y.2.1 y.2.2.1 y.2.2.2.1 y.2.2.2.2.1 y.2.2.2.2.2.1 y.2.2.2.2.2.2.1 y.2.2.2.2.2.2.2, fun y r h => con_ok good mixed (c := bodyOf Tryd.f19) Tryd.func19 (by kernel_rfl) n19 y ((e19 k y).trans h)⟩
noncomputable def F4 (k : Nat) (x1 : (List (Int × Int × Int × ByteArray))) : Option Bool :=
grd (bnds (x1.length : Int) 0 (mn (x1.length : Int) 20)) <|
(F17 k (cut x1 0 (mn (x1.length : Int) 20))).bind fun y2 => 
(F18 k (cut x1 0 (mn (x1.length : Int) 20))).bind fun y4 => 
(F15 k).bind fun y5 => 
cond y5 (
cond (y2.2.2.2.2 == y4.2.2.2.2) (
(F19 k y2.1 y2.2.1 y2.2.2.1 y2.2.2.2.1 y4.1 y4.2.1 y4.2.2.1 y4.2.2.2.1).bind fun y6 => 
some y6) (
some false)) (
some false)
def A4 : CTpl := ⟨[.fz .u (.int .i64 (.int .u32 (.int .u32 (.str .nil))))], []⟩
def h4 : List HTy := [.tl (.int .i64 (.int .u32 (.int .u32 (.str .nil))))]
def R4 : List RTpl := [⟨.b, [], [.tb]⟩]
def n4 : An := .nd
theorem e4 (k : Nat) (hm : Mo.m = false) (y : Tup h4) : exec (P := Tryd.prog) D (lk rowsL) [C17 k hm, C18 k, C15 k hm, C19 k] k (bodyOf Tryd.f4) n4 (fnE Tryd.f4 A4 [] (inOf A4 (ofTup h4 y))) (fnSt [] (inOf A4 (ofTup h4 y))) (leafR D (fnE Tryd.f4 A4 [] (inOf A4 (ofTup h4 y))) Tryd.f4.results.toList (R4.map (·.h)) R4) = F4 k y := by kernel_rfl
noncomputable def C4 (k : Nat) (hm : Mo.m = false) : Con Tryd.prog := ⟨4, Tryd.f4, Tryd.func4, by kernel_rfl, by kernel_rfl, A4, h4, [], R4, fun y => F4 k y, fun y r h => con_ok good mixed (c := bodyOf Tryd.f4) Tryd.func4 (by kernel_rfl) n4 y ((e4 k hm y).trans h)⟩
noncomputable def F20 (k : Nat) (x1 : Int) (x2 : Int) (x3 : Int) (x4 : Int) (x5 : Int) (x6 : Int) (x7 : (List (ByteArray × Bool × ByteArray))) : Option (List (Int × Int × Int × ByteArray)) :=
(((F10 k x1 x2 x3).bind fun y6 => 
(F12 k x4 x5 x6 x7).bind fun y7 => 
(F14 k y6.1 y6.2.1 y6.2.2 y7.1 y7.2.1 y7.2.2.1 y7.2.2.2).bind fun y8 => 
sel (fun y9 =>
some ([] : List (Int × Int × Int × ByteArray))) (fun y10 =>
some y10.2) y8 : Option (List (Int × Int × Int × ByteArray)))).bind fun y11 => 
some y11
def A20 : CTpl := ⟨[.ag [.i .i64, .i .i64, .i .i64], .ag [.i .u32, .i .u32, .i .u32, .fz .u (.str (.bool (.str .nil)))]], []⟩
def h20 : List HTy := [.ti, .ti, .ti, .ti, .ti, .ti, .tl (.str (.bool (.str .nil)))]
def R20 : List RTpl := [⟨.sl .u 500000, [(500000, .ar 43 (.int .i64 (.int .u32 (.int .u32 (.str .nil)))))], [.tl (.int .i64 (.int .u32 (.int .u32 (.str .nil))))]⟩]
def n20 : An := .sq (.nd) (.jn [] [] [(0, ⟨[(5, .sl .u 300100)], [(300100, .ar 43 (.int .i64 (.int .u32 (.int .u32 (.str .nil)))))]⟩)] [[.tl (.int .i64 (.int .u32 (.int .u32 (.str .nil))))]] (.mk [] [0, 1, 0, 7, 15, 31, 63, 63, 127, 511]) (.nd))
theorem e20 (k : Nat) (y : Tup h20) : exec (P := Tryd.prog) D (lk rowsL) [C10 k, C12 k, C14 k] k (bodyOf Tryd.f20) n20 (fnE Tryd.f20 A20 [] (inOf A20 (ofTup h20 y))) (fnSt [] (inOf A20 (ofTup h20 y))) (leafR D (fnE Tryd.f20 A20 [] (inOf A20 (ofTup h20 y))) Tryd.f20.results.toList (R20.map (·.h)) R20) = F20 k y.1 y.2.1 y.2.2.1 y.2.2.2.1 y.2.2.2.2.1 y.2.2.2.2.2.1 y.2.2.2.2.2.2 := by kernel_rfl
noncomputable def C20 (k : Nat) : Con Tryd.prog := ⟨20, Tryd.f20, Tryd.func20, by kernel_rfl, by kernel_rfl, A20, h20, [], R20, fun y => F20 k y.1 y.2.1 y.2.2.1 y.2.2.2.1 y.2.2.2.2.1 y.2.2.2.2.2.1 y.2.2.2.2.2.2, fun y r h => con_ok good mixed (c := bodyOf Tryd.f20) Tryd.func20 (by kernel_rfl) n20 y ((e20 k y).trans h)⟩
noncomputable def F5 (k : Nat) (x1 : Int) (x2 : Int) (x3 : Int) (x4 : Int) (x5 : Int) (x6 : Int) (x7 : (List (ByteArray × Bool × ByteArray))) (x8 : Int) (x9 : Int) (x10 : Int) (x11 : Int) (x12 : Int) (x13 : Int) (x14 : ByteArray) : Option Bool :=
(F20 k x1 x2 x3 x4 x5 x6 x7).bind fun y2 => 
(((F15 k).bind fun y7 => 
cond (!y7) (
some true) (
some ((y2.length : Int) == 0)) : Option Bool)).bind fun y8 => 
cond y8 (
(F15 k).bind fun y9 => 
some y9) (
(F21 k x9 (y2.length : Int)).bind fun y12 => 
(F21 k x10 (y2.length : Int)).bind fun y13 => 
grd (decide ((([] : List (Int × Int × Int × ByteArray)).length + y2.length) * 32 ≤ 140737488355328)) <|
(((F21 k x8 7).bind fun y41 => 
cond (y41 == 0) (
(ix (([] : List (Int × Int × Int × ByteArray)) ++ y2) y12).bind fun a42 =>
(((([] : List (Int × Int × Int × ByteArray)) ++ y2)[y12.toNat]?).bind fun a43 => some (a43.1, x12, a43.2.2.1, a43.2.2.2)).bind fun a44 =>
some ((([] : List (Int × Int × Int × ByteArray)) ++ y2).set y12.toNat a44)) (
cond (y41 == 1) (
(ix (([] : List (Int × Int × Int × ByteArray)) ++ y2) y12).bind fun a45 =>
(((([] : List (Int × Int × Int × ByteArray)) ++ y2)[y12.toNat]?).bind fun a46 => some (a46.1, a46.2.1, x13, a46.2.2.2)).bind fun a47 =>
some ((([] : List (Int × Int × Int × ByteArray)) ++ y2).set y12.toNat a47)) (
cond (y41 == 2) (
(ix (([] : List (Int × Int × Int × ByteArray)) ++ y2) y12).bind fun a48 =>
(((([] : List (Int × Int × Int × ByteArray)) ++ y2)[y12.toNat]?).bind fun a49 => some (a49.1, a49.2.1, a49.2.2.1, x14)).bind fun a50 =>
some ((([] : List (Int × Int × Int × ByteArray)) ++ y2).set y12.toNat a50)) (
cond (y41 == 3) (
(ix (([] : List (Int × Int × Int × ByteArray)) ++ y2) y13).bind fun a51 =>
((([] : List (Int × Int × Int × ByteArray)) ++ y2)[y13.toNat]?).bind fun a52 =>
(ix (([] : List (Int × Int × Int × ByteArray)) ++ y2) y12).bind fun a53 =>
((([] : List (Int × Int × Int × ByteArray)) ++ y2)[y12.toNat]?).bind fun a54 =>
(ix (([] : List (Int × Int × Int × ByteArray)) ++ y2) y12).bind fun a55 =>
(((([] : List (Int × Int × Int × ByteArray)) ++ y2)[y12.toNat]?).bind fun a56 => some (a52.1, a52.2.1, a52.2.2.1, a52.2.2.2)).bind fun a57 =>
(ix ((([] : List (Int × Int × Int × ByteArray)) ++ y2).set y12.toNat a57) y13).bind fun a58 =>
((((([] : List (Int × Int × Int × ByteArray)) ++ y2).set y12.toNat a57)[y13.toNat]?).bind fun a59 => some (a54.1, a54.2.1, a54.2.2.1, a54.2.2.2)).bind fun a60 =>
some (((([] : List (Int × Int × Int × ByteArray)) ++ y2).set y12.toNat a57).set y13.toNat a60)) (
cond (y41 == 4) (
grd (bnds ((([] : List (Int × Int × Int × ByteArray)) ++ y2).length : Int) 0 y12) <|
grd (bnds ((([] : List (Int × Int × Int × ByteArray)) ++ y2).length : Int) (IntKind.wrap .i64 (y12 + 1)) ((([] : List (Int × Int × Int × ByteArray)) ++ y2).length : Int)) <|
grd (decide ((((([] : List (Int × Int × Int × ByteArray)) ++ y2).take (y12.toNat - 0)).length + (((([] : List (Int × Int × Int × ByteArray)) ++ y2).drop ((IntKind.wrap .i64 (y12 + 1)).toNat)).take ((((([] : List (Int × Int × Int × ByteArray)) ++ y2).length : Int).toNat) - ((IntKind.wrap .i64 (y12 + 1)).toNat))).length) * 32 ≤ 140737488355328)) <|
some (((([] : List (Int × Int × Int × ByteArray)) ++ y2).take (y12.toNat - 0)) ++ (((([] : List (Int × Int × Int × ByteArray)) ++ y2).drop ((IntKind.wrap .i64 (y12 + 1)).toNat)).take ((((([] : List (Int × Int × Int × ByteArray)) ++ y2).length : Int).toNat) - ((IntKind.wrap .i64 (y12 + 1)).toNat))))) (
cond (y41 == 5) (
(ix y2 y12).bind fun a61 =>
(y2[y12.toNat]?).bind fun a62 =>
grd (decide (((([] : List (Int × Int × Int × ByteArray)) ++ y2).length + [(a62.1, a62.2.1, a62.2.2.1, a62.2.2.2)].length) * 32 ≤ 140737488355328)) <|
some ((([] : List (Int × Int × Int × ByteArray)) ++ y2) ++ [(a62.1, a62.2.1, a62.2.2.1, a62.2.2.2)])) (
(F21 k x11 6).bind fun y63 => 
(ix (([] : List (Int × Int × Int × ByteArray)) ++ y2) y12).bind fun a64 =>
(((([] : List (Int × Int × Int × ByteArray)) ++ y2)[y12.toNat]?).bind fun a65 => some (y63, a65.2.1, a65.2.2.1, a65.2.2.2)).bind fun a66 =>
some ((([] : List (Int × Int × Int × ByteArray)) ++ y2).set y12.toNat a66))))))) : Option (List (Int × Int × Int × ByteArray)))).bind fun y67 => 
(F17 k y67).bind fun y69 => 
(F18 k y67).bind fun y71 => 
cond (y69.2.2.2.2 == y71.2.2.2.2) (
(F19 k y69.1 y69.2.1 y69.2.2.1 y69.2.2.2.1 y71.1 y71.2.1 y71.2.2.1 y71.2.2.2.1).bind fun y72 => 
some y72) (
some false))
def A5 : CTpl := ⟨[.ag [.i .i64, .i .i64, .i .i64], .ag [.i .u32, .i .u32, .i .u32, .fz .u (.str (.bool (.str .nil)))], .i .i64, .i .i64, .i .i64, .ag [.i .i64, .i .u32, .i .u32, .s]], []⟩
def h5 : List HTy := [.ti, .ti, .ti, .ti, .ti, .ti, .tl (.str (.bool (.str .nil))), .ti, .ti, .ti, .ti, .ti, .ti, .ts]
def R5 : List RTpl := [⟨.b, [], [.tb]⟩]
def n5 : An := .sq (.nd) (.sq (.nd) (.sq (.jn [2, 3, 4, 11, 13] [11, 402300] [(0, ⟨[(30, .b)], []⟩)] [[.tb]] (.nd) (.nd)) (.sq (.nd) (.sq (.nd) (.jn [] [] [(0, ⟨[(16, .sl .u 300800)], [(300800, .ar 43 (.int .i64 (.int .u32 (.int .u32 (.str .nil)))))]⟩)] [[.tl (.int .i64 (.int .u32 (.int .u32 (.str .nil))))]] (.sq (.nd) (.sq (.nd) (.sq (.nd) (.sq (.nd) (.sq (.nd) (.sq (.nd) (.sq (.nd) (.sq (.nd) (.sq (.mk [] [0, 0, 0, 0, 0, 0, 48, 112, 0, 0, 768, 1792, 4083, 8179, 16383, 32767]) (.sq (.nd) (.sq (.mk [] [0, 0, 3, 0, 0, 16, 56, 127, 255]) (.nd)))))))))))) (.sq (.fr [(1, 300800)]) (.nd)))))))
theorem e5 (k : Nat) (hm : Mo.m = false) (y : Tup h5) : exec (P := Tryd.prog) D (lk rowsL) [C20 k, C15 k hm, C21 k, C17 k hm, C18 k, C19 k] k (bodyOf Tryd.f5) n5 (fnE Tryd.f5 A5 [] (inOf A5 (ofTup h5 y))) (fnSt [] (inOf A5 (ofTup h5 y))) (leafR D (fnE Tryd.f5 A5 [] (inOf A5 (ofTup h5 y))) Tryd.f5.results.toList (R5.map (·.h)) R5) = F5 k y.1 y.2.1 y.2.2.1 y.2.2.2.1 y.2.2.2.2.1 y.2.2.2.2.2.1 y.2.2.2.2.2.2.1 y.2.2.2.2.2.2.2.1 y.2.2.2.2.2.2.2.2.1 y.2.2.2.2.2.2.2.2.2.1 y.2.2.2.2.2.2.2.2.2.2.1 y.2.2.2.2.2.2.2.2.2.2.2.1 y.2.2.2.2.2.2.2.2.2.2.2.2.1 y.2.2.2.2.2.2.2.2.2.2.2.2.2 := by kernel_rfl
noncomputable def C5 (k : Nat) (hm : Mo.m = false) : Con Tryd.prog := ⟨5, Tryd.f5, Tryd.func5, by kernel_rfl, by kernel_rfl, A5, h5, [], R5, fun y => F5 k y.1 y.2.1 y.2.2.1 y.2.2.2.1 y.2.2.2.2.1 y.2.2.2.2.2.1 y.2.2.2.2.2.2.1 y.2.2.2.2.2.2.2.1 y.2.2.2.2.2.2.2.2.1 y.2.2.2.2.2.2.2.2.2.1 y.2.2.2.2.2.2.2.2.2.2.1 y.2.2.2.2.2.2.2.2.2.2.2.1 y.2.2.2.2.2.2.2.2.2.2.2.2.1 y.2.2.2.2.2.2.2.2.2.2.2.2.2, fun y r h => con_ok good mixed (c := bodyOf Tryd.f5) Tryd.func5 (by kernel_rfl) n5 y ((e5 k hm y).trans h)⟩
noncomputable def F6 (k : Nat) (x1 : Int) (x2 : Int) (x3 : Int) (x4 : Int) (x5 : Int) (x6 : Int) (x7 : (List (ByteArray × Bool × ByteArray))) : Option Bool :=
(F10 k x1 x2 x3).bind fun y2 => 
(F12 k x4 x5 x6 x7).bind fun y4 => 
(((F13 k y2.1 y2.2.1 y2.2.2 y4.1 y4.2.1 y4.2.2.1 y4.2.2.2).bind fun y8 => 
sel (fun y9 =>
some (y9, ([] : List (Int × Int × Int × ByteArray)))) (fun y10 =>
some (y10.1, y10.2)) y8 : Option (Int × (List (Int × Int × Int × ByteArray))))).bind fun y11 => 
(((F15 k).bind fun y16 => 
cond (!y16) (
some true) (
some (y11.1 != 0)) : Option Bool)).bind fun y17 => 
cond y17 (
(F15 k).bind fun y18 => 
some y18) (
(F22 k y4.2.2.2).bind fun y20 => 
(F17 k y11.2).bind fun y22 => 
cond (y22.2.2.2.2 == 0) (
(F19 k y22.1 y22.2.1 y22.2.2.1 y22.2.2.2.1 y4.1 y4.2.1 y4.2.2.1 y4.2.2.2).bind fun y23 => 
cond y23 (
(F23 k y2.1 y2.2.1 y2.2.2 (y20.1.size : Int)).bind fun y24 => 
cond ((y11.2.length : Int) == y24) (
(F24 k y2.1 y2.2.1 y2.2.2).bind fun y25 => 
some (decide ((y11.2.length : Int) ≤ y25))) (
some false)) (
some false)) (
some false))
def A6 : CTpl := ⟨[.ag [.i .i64, .i .i64, .i .i64], .ag [.i .u32, .i .u32, .i .u32, .fz .u (.str (.bool (.str .nil)))]], []⟩
def h6 : List HTy := [.ti, .ti, .ti, .ti, .ti, .ti, .tl (.str (.bool (.str .nil)))]
def R6 : List RTpl := [⟨.b, [], [.tb]⟩]
def n6 : An := .sq (.nd) (.sq (.nd) (.sq (.nd) (.jn [2, 3] [2, 3] [(0, ⟨[(5, .sl .u 300300), (6, .i .i64)], [(300300, .ar 43 (.int .i64 (.int .u32 (.int .u32 (.str .nil)))))]⟩)] [[.ti, .tl (.int .i64 (.int .u32 (.int .u32 (.str .nil))))]] (.nd) (.sq (.jn [2, 3, 5] [2, 3, 300300] [(0, ⟨[(26, .b)], []⟩)] [[.tb]] (.nd) (.nd)) (.sq (.nd) (.sq (.fr [(1, 300300)]) (.nd)))))))
theorem e6 (k : Nat) (hm : Mo.m = false) (y : Tup h6) : exec (P := Tryd.prog) D (lk rowsL) [C10 k, C12 k, C13 k hm, C15 k hm, C22 k, C17 k hm, C19 k, C23 k, C24 k] k (bodyOf Tryd.f6) n6 (fnE Tryd.f6 A6 [] (inOf A6 (ofTup h6 y))) (fnSt [] (inOf A6 (ofTup h6 y))) (leafR D (fnE Tryd.f6 A6 [] (inOf A6 (ofTup h6 y))) Tryd.f6.results.toList (R6.map (·.h)) R6) = F6 k y.1 y.2.1 y.2.2.1 y.2.2.2.1 y.2.2.2.2.1 y.2.2.2.2.2.1 y.2.2.2.2.2.2 := by kernel_rfl
noncomputable def C6 (k : Nat) (hm : Mo.m = false) : Con Tryd.prog := ⟨6, Tryd.f6, Tryd.func6, by kernel_rfl, by kernel_rfl, A6, h6, [], R6, fun y => F6 k y.1 y.2.1 y.2.2.1 y.2.2.2.1 y.2.2.2.2.1 y.2.2.2.2.2.1 y.2.2.2.2.2.2, fun y r h => con_ok good mixed (c := bodyOf Tryd.f6) Tryd.func6 (by kernel_rfl) n6 y ((e6 k hm y).trans h)⟩
noncomputable def F7 (k : Nat) (x1 : Int) (x2 : Int) (x3 : Int) (x4 : Int) (x5 : Int) (x6 : Int) (x7 : (List (ByteArray × Bool × ByteArray))) (x8 : Int) (x9 : Int) (x10 : Int) : Option Bool :=
(((F10 k x1 x2 x3).bind fun y6 => 
(F12 k x4 x5 x6 x7).bind fun y7 => 
(F13 k y6.1 y6.2.1 y6.2.2 y7.1 y7.2.1 y7.2.2.1 y7.2.2.2).bind fun y8 => 
sel (fun y9 =>
some (y9, ([] : List (Int × Int × Int × ByteArray)))) (fun y10 =>
some (y10.1, y10.2)) y8 : Option (Int × (List (Int × Int × Int × ByteArray))))).bind fun y11 => 
(((F15 k).bind fun y16 => 
cond (!y16) (
some true) (
cond (y11.1 != 0) (
some true) (
some (decide ((y11.2.length : Int) < 2)))) : Option Bool)).bind fun y17 => 
cond y17 (
(F15 k).bind fun y18 => 
some y18) (
((cond (x10 == 0) (
some 1) (
some x10) : Option Int)).bind fun y19 => 
(F21 k x8 (IntKind.wrap .i64 ((y11.2.length : Int) - 1))).bind fun y21 => 
(ix y11.2 y21).bind fun a24 =>
(y11.2[y21.toNat]?).bind fun a25 =>
cond (a25.2.2.2.toList == (⟨#[]⟩ : ByteArray).toList) (
some false) (
(ix y11.2 y21).bind fun a26 =>
(y11.2[y21.toNat]?).bind fun a27 =>
grd (decide (a27.2.2.2.size ≤ 9223372036854775807)) <|
(F21 k x9 ((strNums a27.2.2.2).length : Int)).bind fun y34 => 
(ix (strNums a27.2.2.2) y34).bind fun a35 =>
((strNums a27.2.2.2)[y34.toNat]?).bind fun a36 =>
(ix (strNums a27.2.2.2) y34).bind fun a37 =>
(((strNums a27.2.2.2)[y34.toNat]?).bind fun a38 => some (bits .xor .u8 a36 y19)).bind fun a39 =>
(ix y11.2 y21).bind fun a40 =>
((y11.2[y21.toNat]?).bind fun a41 => some (a41.1, a41.2.1, a41.2.2.1, (strOfNums ((strNums a27.2.2.2).set y34.toNat a39)))).bind fun a42 =>
(F17 k (y11.2.set y21.toNat a42)).bind fun y44 => 
cond (y44.2.2.2.2 == 5) (
some ((y44.2.2.2.1.length : Int) == 0)) (
some false)))
def A7 : CTpl := ⟨[.ag [.i .i64, .i .i64, .i .i64], .ag [.i .u32, .i .u32, .i .u32, .fz .u (.str (.bool (.str .nil)))], .i .i64, .i .i64, .i .u8], []⟩
def h7 : List HTy := [.ti, .ti, .ti, .ti, .ti, .ti, .tl (.str (.bool (.str .nil))), .ti, .ti, .ti]
def R7 : List RTpl := [⟨.b, [], [.tb]⟩]
def n7 : An := .sq (.nd) (.jn [2, 3, 4] [] [(0, ⟨[(11, .sl .u 300100), (12, .i .i64)], [(300100, .ar 43 (.int .i64 (.int .u32 (.int .u32 (.str .nil)))))]⟩)] [[.ti, .tl (.int .i64 (.int .u32 (.int .u32 (.str .nil))))]] (.mk [] [0, 1, 0, 7, 15, 31, 63, 63, 127, 511]) (.sq (.jn [2, 3, 4, 11] [300100] [(0, ⟨[(35, .b)], []⟩)] [[.tb]] (.nd) (.nd)) (.jn [2, 3, 11] [300100] [(0, ⟨[(4, .i .u8)], []⟩)] [[.ti]] (.nd) (.sq (.nd) (.sq (.nd) (.sq (.nd) (.sq (.nd) (.sq (.nd) (.sq (.fr [(1, 300100)]) (.nd))))))))))
theorem e7 (k : Nat) (hm : Mo.m = false) (y : Tup h7) : exec (P := Tryd.prog) D (lk rowsL) [C10 k, C12 k, C13 k hm, C15 k hm, C21 k, C17 k hm] k (bodyOf Tryd.f7) n7 (fnE Tryd.f7 A7 [] (inOf A7 (ofTup h7 y))) (fnSt [] (inOf A7 (ofTup h7 y))) (leafR D (fnE Tryd.f7 A7 [] (inOf A7 (ofTup h7 y))) Tryd.f7.results.toList (R7.map (·.h)) R7) = F7 k y.1 y.2.1 y.2.2.1 y.2.2.2.1 y.2.2.2.2.1 y.2.2.2.2.2.1 y.2.2.2.2.2.2.1 y.2.2.2.2.2.2.2.1 y.2.2.2.2.2.2.2.2.1 y.2.2.2.2.2.2.2.2.2 := by kernel_rfl
noncomputable def C7 (k : Nat) (hm : Mo.m = false) : Con Tryd.prog := ⟨7, Tryd.f7, Tryd.func7, by kernel_rfl, by kernel_rfl, A7, h7, [], R7, fun y => F7 k y.1 y.2.1 y.2.2.1 y.2.2.2.1 y.2.2.2.2.1 y.2.2.2.2.2.1 y.2.2.2.2.2.2.1 y.2.2.2.2.2.2.2.1 y.2.2.2.2.2.2.2.2.1 y.2.2.2.2.2.2.2.2.2, fun y r h => con_ok good mixed (c := bodyOf Tryd.f7) Tryd.func7 (by kernel_rfl) n7 y ((e7 k hm y).trans h)⟩
noncomputable def L8_22 (k : Nat) (y2 : (Int × Int × Int)) (y4 : (Int × Int × Int × (List (ByteArray × Bool × ByteArray)))) (y11 : (Int × (List (Int × Int × Int × ByteArray)))) (z139 : (ByteArray × Int)) : Option ((ByteArray × Int) ⊕ (Unit ⊕ ByteArray)) :=
cond (decide (z139.2 < (IntKind.wrap .i64 ((y11.2.length : Int) - 1)))) (
(((ix y11.2 z139.2).bind fun a140 =>
(y11.2[z139.2.toNat]?).bind fun a141 =>
cond (a141.1 != 2) (
some true) (
(ix y11.2 z139.2).bind fun a142 =>
(y11.2[z139.2.toNat]?).bind fun a143 =>
cond (a143.2.1 != y4.1) (
some true) (
(ix y11.2 z139.2).bind fun a144 =>
(y11.2[z139.2.toNat]?).bind fun a145 =>
cond (a145.2.2.1 != (IntKind.wrap .u32 z139.2)) (
some true) (
(ix y11.2 z139.2).bind fun a146 =>
(y11.2[z139.2.toNat]?).bind fun a147 =>
cond (a147.2.2.2.toList == (⟨#[]⟩ : ByteArray).toList) (
some true) (
cond (decide (z139.2 < (IntKind.wrap .i64 ((y11.2.length : Int) - 2)))) (
(ix y11.2 z139.2).bind fun a148 =>
(y11.2[z139.2.toNat]?).bind fun a149 =>
(F25 k y2.1 y2.2.1 y2.2.2).bind fun y150 => 
some ((a149.2.2.2.size : Int) != y150)) (
some false))))) : Option Bool)).bind fun y151 => 
cond y151 (
some (.inr (.inl ()))) (
(ix y11.2 z139.2).bind fun a152 =>
(y11.2[z139.2.toNat]?).bind fun a153 =>
grd (decide (z139.1.size + a153.2.2.2.size ≤ 9223372036854775807)) <|
some (.inl ((z139.1 ++ a153.2.2.2), (IntKind.wrap .i64 (z139.2 + 1)))))) (
some (.inr (.inr z139.1)))
noncomputable def F8 (k : Nat) (x1 : Int) (x2 : Int) (x3 : Int) (x4 : Int) (x5 : Int) (x6 : Int) (x7 : (List (ByteArray × Bool × ByteArray))) : Option Bool :=
(F10 k x1 x2 x3).bind fun y2 => 
(F12 k x4 x5 x6 x7).bind fun y4 => 
(((F13 k y2.1 y2.2.1 y2.2.2 y4.1 y4.2.1 y4.2.2.1 y4.2.2.2).bind fun y8 => 
sel (fun y9 =>
some (y9, ([] : List (Int × Int × Int × ByteArray)))) (fun y10 =>
some (y10.1, y10.2)) y8 : Option (Int × (List (Int × Int × Int × ByteArray))))).bind fun y11 => 
(((F15 k).bind fun y16 => 
cond (!y16) (
some true) (
some (y11.1 != 0)) : Option Bool)).bind fun y17 => 
cond y17 (
(F15 k).bind fun y18 => 
some y18) (
(loopN (L8_22 k y2 y4 y11) k ((⟨#[]⟩ : ByteArray), 0)).bind fun y154 => 
sel (fun y155 =>
some false) (fun y156 =>
(F22 k y4.2.2.2).bind fun y158 => 
cond (decide (1 ≤ (IntKind.wrap .i64 ((y11.2.length : Int) - 1)))) (
(ix y11.2 (IntKind.wrap .i64 ((y11.2.length : Int) - 1))).bind fun a159 =>
(y11.2[(IntKind.wrap .i64 ((y11.2.length : Int) - 1)).toNat]?).bind fun a160 =>
cond (a160.1 == 3) (
(ix y11.2 (IntKind.wrap .i64 ((y11.2.length : Int) - 1))).bind fun a161 =>
(y11.2[(IntKind.wrap .i64 ((y11.2.length : Int) - 1)).toNat]?).bind fun a162 =>
cond (a162.2.1 == y4.1) (
(ix y11.2 (IntKind.wrap .i64 ((y11.2.length : Int) - 1))).bind fun a163 =>
(y11.2[(IntKind.wrap .i64 ((y11.2.length : Int) - 1)).toNat]?).bind fun a164 =>
cond (a164.2.2.1 == (IntKind.wrap .u32 (IntKind.wrap .i64 ((y11.2.length : Int) - 1)))) (
some (y156.toList == y158.1.toList)) (
some false)) (
some false)) (
some false)) (
some false)) y154)
def A8 : CTpl := ⟨[.ag [.i .i64, .i .i64, .i .i64], .ag [.i .u32, .i .u32, .i .u32, .fz .u (.str (.bool (.str .nil)))]], []⟩
def h8 : List HTy := [.ti, .ti, .ti, .ti, .ti, .ti, .tl (.str (.bool (.str .nil)))]
def R8 : List RTpl := [⟨.b, [], [.tb]⟩]
def n8 : An := .sq (.nd) (.sq (.nd) (.sq (.nd) (.jn [2, 3] [2, 3] [(0, ⟨[(5, .sl .u 300300), (6, .i .i64)], [(300300, .ar 43 (.int .i64 (.int .u32 (.int .u32 (.str .nil)))))]⟩)] [[.ti, .tl (.int .i64 (.int .u32 (.int .u32 (.str .nil))))]] (.nd) (.sq (.jn [2, 3, 5] [2, 3, 300300] [(0, ⟨[(27, .b)], []⟩)] [[.tb]] (.nd) (.nd)) (.sq (.nd) (.sq (.sq (.nd) (.lp [2, 3, 5] [2, 3, 300300] ⟨[(7, .s), (8, .i .i64)], []⟩ [.ts, .ti] [(1, ⟨[(4, .lb false)], []⟩), (2, ⟨[(7, .s)], []⟩)] [[], [.ts]] (.sq (.nd) (.sq (.sq (.jn [7, 8] [] [(0, ⟨[(87, .b)], []⟩)] [[.tb]] (.mk [] [0, 0, 3, 7, 15, 31, 63, 127, 127, 511, 1023, 2047, 127, 4223, 16383, 32767, 65535, 131071, 131071, 524287, 1048575, 2097151, 131071, 4325375, 16777215, 33554431, 67108863, 134217727, 134217727, 536870911, 1073741823, 2147483647, 4294967295, 8589934591, 17179869183, 34359738367, 34359738367, 103079215103, 240518168575, 549755813887, 1099511627775, 2199023255551, 2199023255551, 8796093022207, 17592186044415, 35184372088831, 70368744177663, 2199023255551, 142936511610879, 562949953421311, 1125899906842623, 2251799813685247]) (.nd)) (.nd)) (.nd))))) (.sq (.nd) (.sq (.nd) (.sq (.mk [] [0, 1, 3, 7, 7, 31, 63, 127, 255, 511, 1023, 2047, 2047, 8191, 16383, 32767, 2047, 67583, 262143, 524287, 1048575, 2097151, 2097151, 8388607, 16777215, 33554431, 2097151, 69206015, 268435455, 536870911, 1073741823, 2147483647, 2147483647, 8589934591, 17179869183, 34359738367]) (.nd))))))))))
theorem e8 (k : Nat) (hm : Mo.m = false) (y : Tup h8) : exec (P := Tryd.prog) D (lk rowsL) [C10 k, C12 k, C13 k hm, C15 k hm, C25 k, C22 k] k (bodyOf Tryd.f8) n8 (fnE Tryd.f8 A8 [] (inOf A8 (ofTup h8 y))) (fnSt [] (inOf A8 (ofTup h8 y))) (leafR D (fnE Tryd.f8 A8 [] (inOf A8 (ofTup h8 y))) Tryd.f8.results.toList (R8.map (·.h)) R8) = F8 k y.1 y.2.1 y.2.2.1 y.2.2.2.1 y.2.2.2.2.1 y.2.2.2.2.2.1 y.2.2.2.2.2.2 := by kernel_rfl
noncomputable def C8 (k : Nat) (hm : Mo.m = false) : Con Tryd.prog := ⟨8, Tryd.f8, Tryd.func8, by kernel_rfl, by kernel_rfl, A8, h8, [], R8, fun y => F8 k y.1 y.2.1 y.2.2.1 y.2.2.2.1 y.2.2.2.2.1 y.2.2.2.2.2.1 y.2.2.2.2.2.2, fun y r h => con_ok good mixed (c := bodyOf Tryd.f8) Tryd.func8 (by kernel_rfl) n8 y ((e8 k hm y).trans h)⟩
noncomputable def L17_1_30 (k : Nat) (x1 : (List (Int × Int × Int × ByteArray))) (y556 : (Int × Int × Int × Int × Int × Int × Bool)) (z559 : (Int × (List Int))) : Option ((Int × (List Int)) ⊕ ((List Int) ⊕ (List Int))) :=
cond (decide (z559.1 < (((((IntKind.wrap .i64 ((x1.length : Int) - 1)).toNat) - 0) : Nat) : Int))) (
((grd (decide (0 ≤ z559.1 ∧ z559.1 < (((((IntKind.wrap .i64 ((x1.length : Int) - 1)).toNat) - 0) : Nat) : Int))) <|
(x1[(0 + z559.1.toNat)]?).bind fun a560 =>
(((F38 k a560.1 a560.2.1 a560.2.2.1 a560.2.2.2).bind fun y561 => 
sel (fun y562 =>
some (.inl ())) (fun y563 =>
sel (fun y564 =>
some (.inr (.inl (y564.1, y564.2.1)))) (fun y565 =>
sel (fun y566 =>
some (.inr (.inr (.inl (y566.1, y566.2.1, y566.2.2.1))))) (fun y567 =>
sel (fun y568 =>
some (.inr (.inr (.inr (.inl (y568.1, y568.2.1, y568.2.2.1, y568.2.2.2.1, y568.2.2.2.2.1, y568.2.2.2.2.2.1)))))) (fun y569 =>
some (.inr (.inr (.inr (.inr (y569.1, y569.2.1, y569.2.2.1)))))) y567) y565) y563) y561 : Option (Unit ⊕ (Int × Int) ⊕ (Int × Int × ByteArray) ⊕ (Int × Int × Int × Int × Int × Int) ⊕ (Int × Int × Int)))).bind fun y570 => 
sel (fun y571 =>
(F40 k).bind fun y573 => 
((cond (!y573.2.2.2) (
some true) (
cond (y573.1 != y556.1) (
some true) (
some (y573.2.1 != (IntKind.wrap .u32 z559.1)))) : Option Bool)).bind fun y574 => 
cond y574 (
some (.inr z559.2)) (
(F41 k y573.2.2.1 z559.2).bind fun y575 => 
some (.inl y575.2))) (fun y572 =>
sel (fun y576 =>
(F40_1 k y576.1 y576.2).bind fun y578 => 
((cond (!y578.2.2.2) (
some true) (
cond (y578.1 != y556.1) (
some true) (
some (y578.2.1 != (IntKind.wrap .u32 z559.1)))) : Option Bool)).bind fun y579 => 
cond y579 (
some (.inr z559.2)) (
(F41 k y578.2.2.1 z559.2).bind fun y580 => 
some (.inl y580.2))) (fun y577 =>
sel (fun y581 =>
(F40_2 k y581.1 y581.2.1 y581.2.2).bind fun y583 => 
((cond (!y583.2.2.2) (
some true) (
cond (y583.1 != y556.1) (
some true) (
some (y583.2.1 != (IntKind.wrap .u32 z559.1)))) : Option Bool)).bind fun y584 => 
cond y584 (
some (.inr z559.2)) (
(F41 k y583.2.2.1 z559.2).bind fun y585 => 
some (.inl y585.2))) (fun y582 =>
sel (fun y586 =>
(F40_3 k y586.1 y586.2.1 y586.2.2.1 y586.2.2.2.1 y586.2.2.2.2.1 y586.2.2.2.2.2).bind fun y588 => 
((cond (!y588.2.2.2) (
some true) (
cond (y588.1 != y556.1) (
some true) (
some (y588.2.1 != (IntKind.wrap .u32 z559.1)))) : Option Bool)).bind fun y589 => 
cond y589 (
some (.inr z559.2)) (
(F41 k y588.2.2.1 z559.2).bind fun y590 => 
some (.inl y590.2))) (fun y587 =>
(F40_4 k y587.1 y587.2.1 y587.2.2).bind fun y591 => 
((cond (!y591.2.2.2) (
some true) (
cond (y591.1 != y556.1) (
some true) (
some (y591.2.1 != (IntKind.wrap .u32 z559.1)))) : Option Bool)).bind fun y592 => 
cond y592 (
some (.inr z559.2)) (
(F41 k y591.2.2.1 z559.2).bind fun y593 => 
some (.inl y593.2))) y582) y577) y572) y570 : Option ((List Int) ⊕ (List Int)))).bind fun y594 => 
sel (fun y595 =>
some (.inl ((IntKind.wrap .i64 (z559.1 + 1)), y595))) (fun y596 =>
some (.inr (.inl y596))) y594) (
some (.inr (.inr z559.2)))
noncomputable def F17_1 (k : Nat) (x1 : (List (Int × Int × Int × ByteArray))) : Option (Int × Int × Int × (List (ByteArray × Bool × ByteArray)) × Int) :=
cond (decide ((x1.length : Int) < 2)) (
some (0, 0, 0, ([] : List (ByteArray × Bool × ByteArray)), 3)) (
(((ix x1 (IntKind.wrap .i64 ((x1.length : Int) - 1))).bind fun a12 =>
(x1[(IntKind.wrap .i64 ((x1.length : Int) - 1)).toNat]?).bind fun a13 =>
(F38 k a13.1 a13.2.1 a13.2.2.1 a13.2.2.2).bind fun y14 => 
sel (fun y15 =>
some (.inl ())) (fun y16 =>
sel (fun y17 =>
some (.inr (.inl (y17.1, y17.2.1)))) (fun y18 =>
sel (fun y19 =>
some (.inr (.inr (.inl (y19.1, y19.2.1, y19.2.2.1))))) (fun y20 =>
sel (fun y21 =>
some (.inr (.inr (.inr (.inl (y21.1, y21.2.1, y21.2.2.1, y21.2.2.2.1, y21.2.2.2.2.1, y21.2.2.2.2.2.1)))))) (fun y22 =>
some (.inr (.inr (.inr (.inr (y22.1, y22.2.1, y22.2.2.1)))))) y20) y18) y16) y14 : Option (Unit ⊕ (Int × Int) ⊕ (Int × Int × ByteArray) ⊕ (Int × Int × Int × Int × Int × Int) ⊕ (Int × Int × Int)))).bind fun y23 => 
sel (fun y24 =>
(F39 k).bind fun y27 => 
((cond (!y27.2.2.2.2.2.2) (
some true) (
some (y27.2.1 != (IntKind.wrap .u32 (IntKind.wrap .i64 ((x1.length : Int) - 1))))) : Option Bool)).bind fun y29 => 
cond y29 (
some (0, 0, 0, ([] : List (ByteArray × Bool × ByteArray)), 2)) (
grd (bnds (x1.length : Int) 0 (IntKind.wrap .i64 ((x1.length : Int) - 1))) <|
(loopN (L17_1_30 k x1 y27) k (0, ([] : List Int))).bind fun y378 => 
sel (fun y379 =>
some (0, 0, 0, ([] : List (ByteArray × Bool × ByteArray)), 2)) (fun y380 =>
(((F42 k y380).bind fun y388 => 
cond ((IntKind.wrap .u32 y388) != y27.2.2.2.2.2.1) (
some (true, y380)) (
(F43 k y380).bind fun y389 => 
(F31 k [y389.1]).bind fun y390 => 
some ((y390 != y27.2.2.2.2.1), y389.2)) : Option (Bool × (List Int)))).bind fun y391 => 
cond y391.1 (
some (0, 0, 0, ([] : List (ByteArray × Bool × ByteArray)), 5)) (
(F43_1 k y391.2).bind fun y394 => 
(F44 k y394.1).bind fun y395 => 
cond (y395.2 != 0) (
some (0, 0, 0, ([] : List (ByteArray × Bool × ByteArray)), y395.2)) (
some (y27.1, y27.2.2.1, y27.2.2.2.1, y395.1, 0)))) y378)) (fun y25 =>
sel (fun y396 =>
(F39_1 k y396.1 y396.2).bind fun y399 => 
((cond (!y399.2.2.2.2.2.2) (
some true) (
some (y399.2.1 != (IntKind.wrap .u32 (IntKind.wrap .i64 ((x1.length : Int) - 1))))) : Option Bool)).bind fun y401 => 
cond y401 (
some (0, 0, 0, ([] : List (ByteArray × Bool × ByteArray)), 2)) (
grd (bnds (x1.length : Int) 0 (IntKind.wrap .i64 ((x1.length : Int) - 1))) <|
(loopN (L17_1_30 k x1 y399) k (0, ([] : List Int))).bind fun y440 => 
sel (fun y441 =>
some (0, 0, 0, ([] : List (ByteArray × Bool × ByteArray)), 2)) (fun y442 =>
(((F42 k y442).bind fun y443 => 
cond ((IntKind.wrap .u32 y443) != y399.2.2.2.2.2.1) (
some (true, y442)) (
(F43 k y442).bind fun y444 => 
(F31 k [y444.1]).bind fun y445 => 
some ((y445 != y399.2.2.2.2.1), y444.2)) : Option (Bool × (List Int)))).bind fun y446 => 
cond y446.1 (
some (0, 0, 0, ([] : List (ByteArray × Bool × ByteArray)), 5)) (
(F43_1 k y446.2).bind fun y447 => 
(F44 k y447.1).bind fun y448 => 
cond (y448.2 != 0) (
some (0, 0, 0, ([] : List (ByteArray × Bool × ByteArray)), y448.2)) (
some (y399.1, y399.2.2.1, y399.2.2.2.1, y448.1, 0)))) y440)) (fun y397 =>
sel (fun y449 =>
(F39_2 k y449.1 y449.2.1 y449.2.2).bind fun y452 => 
((cond (!y452.2.2.2.2.2.2) (
some true) (
some (y452.2.1 != (IntKind.wrap .u32 (IntKind.wrap .i64 ((x1.length : Int) - 1))))) : Option Bool)).bind fun y454 => 
cond y454 (
some (0, 0, 0, ([] : List (ByteArray × Bool × ByteArray)), 2)) (
grd (bnds (x1.length : Int) 0 (IntKind.wrap .i64 ((x1.length : Int) - 1))) <|
(loopN (L17_1_30 k x1 y452) k (0, ([] : List Int))).bind fun y493 => 
sel (fun y494 =>
some (0, 0, 0, ([] : List (ByteArray × Bool × ByteArray)), 2)) (fun y495 =>
(((F42 k y495).bind fun y496 => 
cond ((IntKind.wrap .u32 y496) != y452.2.2.2.2.2.1) (
some (true, y495)) (
(F43 k y495).bind fun y497 => 
(F31 k [y497.1]).bind fun y498 => 
some ((y498 != y452.2.2.2.2.1), y497.2)) : Option (Bool × (List Int)))).bind fun y499 => 
cond y499.1 (
some (0, 0, 0, ([] : List (ByteArray × Bool × ByteArray)), 5)) (
(F43_1 k y499.2).bind fun y500 => 
(F44 k y500.1).bind fun y501 => 
cond (y501.2 != 0) (
some (0, 0, 0, ([] : List (ByteArray × Bool × ByteArray)), y501.2)) (
some (y452.1, y452.2.2.1, y452.2.2.2.1, y501.1, 0)))) y493)) (fun y450 =>
sel (fun y502 =>
(F39_3 k y502.1 y502.2.1 y502.2.2.1 y502.2.2.2.1 y502.2.2.2.2.1 y502.2.2.2.2.2).bind fun y505 => 
((cond (!y505.2.2.2.2.2.2) (
some true) (
some (y505.2.1 != (IntKind.wrap .u32 (IntKind.wrap .i64 ((x1.length : Int) - 1))))) : Option Bool)).bind fun y507 => 
cond y507 (
some (0, 0, 0, ([] : List (ByteArray × Bool × ByteArray)), 2)) (
grd (bnds (x1.length : Int) 0 (IntKind.wrap .i64 ((x1.length : Int) - 1))) <|
(loopN (L17_1_30 k x1 y505) k (0, ([] : List Int))).bind fun y546 => 
sel (fun y547 =>
some (0, 0, 0, ([] : List (ByteArray × Bool × ByteArray)), 2)) (fun y548 =>
(((F42 k y548).bind fun y549 => 
cond ((IntKind.wrap .u32 y549) != y505.2.2.2.2.2.1) (
some (true, y548)) (
(F43 k y548).bind fun y550 => 
(F31 k [y550.1]).bind fun y551 => 
some ((y551 != y505.2.2.2.2.1), y550.2)) : Option (Bool × (List Int)))).bind fun y552 => 
cond y552.1 (
some (0, 0, 0, ([] : List (ByteArray × Bool × ByteArray)), 5)) (
(F43_1 k y552.2).bind fun y553 => 
(F44 k y553.1).bind fun y554 => 
cond (y554.2 != 0) (
some (0, 0, 0, ([] : List (ByteArray × Bool × ByteArray)), y554.2)) (
some (y505.1, y505.2.2.1, y505.2.2.2.1, y554.1, 0)))) y546)) (fun y503 =>
(F39_4 k y503.1 y503.2.1 y503.2.2).bind fun y556 => 
((cond (!y556.2.2.2.2.2.2) (
some true) (
some (y556.2.1 != (IntKind.wrap .u32 (IntKind.wrap .i64 ((x1.length : Int) - 1))))) : Option Bool)).bind fun y558 => 
cond y558 (
some (0, 0, 0, ([] : List (ByteArray × Bool × ByteArray)), 2)) (
grd (bnds (x1.length : Int) 0 (IntKind.wrap .i64 ((x1.length : Int) - 1))) <|
(loopN (L17_1_30 k x1 y556) k (0, ([] : List Int))).bind fun y597 => 
sel (fun y598 =>
some (0, 0, 0, ([] : List (ByteArray × Bool × ByteArray)), 2)) (fun y599 =>
(((F42 k y599).bind fun y600 => 
cond ((IntKind.wrap .u32 y600) != y556.2.2.2.2.2.1) (
some (true, y599)) (
(F43 k y599).bind fun y601 => 
(F31 k [y601.1]).bind fun y602 => 
some ((y602 != y556.2.2.2.2.1), y601.2)) : Option (Bool × (List Int)))).bind fun y603 => 
cond y603.1 (
some (0, 0, 0, ([] : List (ByteArray × Bool × ByteArray)), 5)) (
(F43_1 k y603.2).bind fun y604 => 
(F44 k y604.1).bind fun y605 => 
cond (y605.2 != 0) (
some (0, 0, 0, ([] : List (ByteArray × Bool × ByteArray)), y605.2)) (
some (y556.1, y556.2.2.1, y556.2.2.2.1, y605.1, 0)))) y597)) y450) y397) y25) y23)
def A17_1 : CTpl := ⟨[.sl .u 1000000], [(1000000, .ar 43 (.int .i64 (.int .u32 (.int .u32 (.str .nil)))))]⟩
def h17_1 : List HTy := [.tl (.int .i64 (.int .u32 (.int .u32 (.str .nil))))]
def R17_1 : List RTpl := [⟨.tp [.ag [.i .u32, .i .u32, .i .u32, .fz .u (.str (.bool (.str .nil)))], .i .i64], [], [.ti, .ti, .ti, .tl (.str (.bool (.str .nil))), .ti]⟩]
def n17_1 : An := .sq (.nd) (.sq (.nd) (.sq (.nd) (.jn [0, 2, 4] [2] [(0, ⟨[(5, .c (.nilIface))], []⟩), (0, ⟨[(5, .ifc 98 (.ag [.i .u32, .i .u32]))], []⟩), (0, ⟨[(5, .ifc 63 (.ag [.i .u32, .i .u32, .s]))], []⟩), (0, ⟨[(5, .ifc 66 (.ag [.i .u32, .i .u32, .i .u32, .i .u32, .i .u32, .i .u32]))], []⟩), (0, ⟨[(5, .ifc 100 (.ag [.i .u32, .i .u32, .i .u32]))], []⟩)] [[], [.ti, .ti], [.ti, .ti, .ts], [.ti, .ti, .ti, .ti, .ti, .ti], [.ti, .ti, .ti]] (.nd) (.sq (.nd) (.sq (.jn [0, 2, 4, 7] [2, 7] [(0, ⟨[(46, .b)], []⟩)] [[.tb]] (.nd) (.nd)) (.sq (.nd) (.sq (.sq (.nd) (.lp [2, 7, 9, 50, 51] [7] ⟨[(52, .i .i64)], [(2, .bx 27 [.li .u32 0, .li .u32 0, .li .u32 0, .c (.slice none 0 0)]), (9, .bx 77 [.sp 9, .sl .u 301500]), (301500, .ar 5 (.int .u8 .nil))]⟩ [.ti, .tl (.int .u8 .nil)] [(1, ⟨[(3, .li .i64 2)], [(2, .bx 27 [.li .u32 0, .li .u32 0, .li .u32 0, .c (.slice none 0 0)]), (9, .bx 77 [.sp 9, .sl .u 301525]), (301525, .ar 5 (.int .u8 .nil))]⟩), (2, ⟨[], [(2, .bx 27 [.li .u32 0, .li .u32 0, .li .u32 0, .c (.slice none 0 0)]), (9, .bx 77 [.sp 9, .sl .u 301535]), (301535, .ar 5 (.int .u8 .nil))]⟩)] [[.tl (.int .u8 .nil)], [.tl (.int .u8 .nil)]] (.sq (.nd) (.sq (.nd) (.jn [52] [] [(0, ⟨[], [(2, .bx 27 [.li .u32 0, .li .u32 0, .li .u32 0, .c (.slice none 0 0)]), (9, .bx 77 [.sp 9, .sl .u 301850]), (301850, .ar 5 (.int .u8 .nil))]⟩), (1, ⟨[(3, .li .i64 2)], [(2, .bx 27 [.li .u32 0, .li .u32 0, .li .u32 0, .c (.slice none 0 0)]), (9, .bx 77 [.sp 9, .sl .u 301500]), (301500, .ar 5 (.int .u8 .nil))]⟩)] [[.tl (.int .u8 .nil)], [.tl (.int .u8 .nil)]] (.sq (.nd) (.jn [10] [2, 9, 301500] [(0, ⟨[(12, .c (.nilIface))], []⟩), (0, ⟨[(12, .ifc 98 (.ag [.i .u32, .i .u32]))], []⟩), (0, ⟨[(12, .ifc 63 (.ag [.i .u32, .i .u32, .s]))], []⟩), (0, ⟨[(12, .ifc 66 (.ag [.i .u32, .i .u32, .i .u32, .i .u32, .i .u32, .i .u32]))], []⟩), (0, ⟨[(12, .ifc 100 (.ag [.i .u32, .i .u32, .i .u32]))], []⟩)] [[], [.ti, .ti], [.ti, .ti, .ts], [.ti, .ti, .ti, .ti, .ti, .ti], [.ti, .ti, .ti]] (.nd) (.sq (.nd) (.sq (.jn [14] [2, 9, 14, 301500] [(0, ⟨[(82, .b)], []⟩)] [[.tb]] (.nd) (.nd)) (.nd))))) (.nd)))))) (.sq (.jn [2, 7, 9] [2, 7, 9] [(0, ⟨[(100, .b)], [(301535, .ar 2000005 (.int .u8 .nil))]⟩)] [[.tb, .tl (.int .u8 .nil)]] (.mk [] [0, 1, 0, 4, 15, 31, 63, 127, 255, 63, 575, 2047, 4095]) (.nd)) (.nd)))))))))
theorem e17_1 (k : Nat) (hm : Mo.m = false) (y : Tup h17_1) : exec (P := Tryd.prog) D (lk rowsL) [C38 k, C39 k, C40 k, C41 k, C40_1 k, C40_2 k, C40_3 k, C40_4 k, C42 k, C43 k, C31 k, C43_1 k, C44 k hm, C39_1 k, C39_2 k, C39_3 k, C39_4 k] k (bodyOf Tryd.f17) n17_1 (fnE Tryd.f17 A17_1 [1000000] (inOf A17_1 (ofTup h17_1 y))) (fnSt [1000000] (inOf A17_1 (ofTup h17_1 y))) (leafR D (fnE Tryd.f17 A17_1 [1000000] (inOf A17_1 (ofTup h17_1 y))) Tryd.f17.results.toList (R17_1.map (·.h)) R17_1) = F17_1 k y := by kernel_rfl
noncomputable def C17_1 (k : Nat) (hm : Mo.m = false) : Con Tryd.prog := ⟨17, Tryd.f17, Tryd.func17, by kernel_rfl, by kernel_rfl, A17_1, h17_1, [1000000], R17_1, fun y => F17_1 k y, fun y r h => con_ok good mixed (c := bodyOf Tryd.f17) Tryd.func17 (by kernel_rfl) n17_1 y ((e17_1 k hm y).trans h)⟩
noncomputable def F9 (k : Nat) (x1 : Int) (x2 : Int) (x3 : Int) (x4 : Int) (x5 : Int) (x6 : Int) (x7 : (List (ByteArray × Bool × ByteArray))) (x8 : Int) : Option Bool :=
(((F10 k x1 x2 x3).bind fun y6 => 
(F12 k x4 x5 x6 x7).bind fun y7 => 
(F13 k y6.1 y6.2.1 y6.2.2 y7.1 y7.2.1 y7.2.2.1 y7.2.2.2).bind fun y8 => 
sel (fun y9 =>
some (y9, ([] : List (Int × Int × Int × ByteArray)))) (fun y10 =>
some (y10.1, y10.2)) y8 : Option (Int × (List (Int × Int × Int × ByteArray))))).bind fun y11 => 
(((F15 k).bind fun y16 => 
cond (!y16) (
some true) (
cond (y11.1 != 0) (
some true) (
some (decide ((y11.2.length : Int) < 2)))) : Option Bool)).bind fun y17 => 
cond y17 (
(F15 k).bind fun y18 => 
some y18) (
(F21 k x8 (y11.2.length : Int)).bind fun y20 => 
grd (bnds (y11.2.length : Int) 0 y20) <|
grd (decide ((([] : List (Int × Int × Int × ByteArray)).length + ((y11.2.drop 0).take (y20.toNat - 0)).length) * 32 ≤ 140737488355328)) <|
grd (bnds (y11.2.length : Int) (IntKind.wrap .i64 (y20 + 1)) (y11.2.length : Int)) <|
grd (decide (((([] : List (Int × Int × Int × ByteArray)) ++ ((y11.2.drop 0).take (y20.toNat - 0))).length + ((y11.2.drop ((IntKind.wrap .i64 (y20 + 1)).toNat)).take (((y11.2.length : Int).toNat) - ((IntKind.wrap .i64 (y20 + 1)).toNat))).length) * 32 ≤ 140737488355328)) <|
(F17_1 k ((([] : List (Int × Int × Int × ByteArray)) ++ ((y11.2.drop 0).take (y20.toNat - 0))) ++ ((y11.2.drop ((IntKind.wrap .i64 (y20 + 1)).toNat)).take (((y11.2.length : Int).toNat) - ((IntKind.wrap .i64 (y20 + 1)).toNat))))).bind fun y22 => 
cond (y22.2.2.2.2 == 2) (
some true) (
cond (y22.2.2.2.2 == 3) (
some ((y11.2.length : Int) == 2)) (
some false)))
def A9 : CTpl := ⟨[.ag [.i .i64, .i .i64, .i .i64], .ag [.i .u32, .i .u32, .i .u32, .fz .u (.str (.bool (.str .nil)))], .i .i64], []⟩
def h9 : List HTy := [.ti, .ti, .ti, .ti, .ti, .ti, .tl (.str (.bool (.str .nil))), .ti]
def R9 : List RTpl := [⟨.b, [], [.tb]⟩]
def n9 : An := .sq (.nd) (.jn [2] [] [(0, ⟨[(7, .sl .u 300100), (8, .i .i64)], [(300100, .ar 43 (.int .i64 (.int .u32 (.int .u32 (.str .nil)))))]⟩)] [[.ti, .tl (.int .i64 (.int .u32 (.int .u32 (.str .nil))))]] (.mk [] [0, 1, 0, 7, 15, 31, 63, 63, 127, 511]) (.sq (.jn [2, 7] [300100] [(0, ⟨[(30, .b)], []⟩)] [[.tb]] (.nd) (.nd)) (.sq (.nd) (.sq (.mk [] [0, 0, 3, 7, 0, 0, 32, 112, 255, 511, 1023, 2047, 2047, 0, 12287, 32767]) (.nd)))))
theorem e9 (k : Nat) (hm : Mo.m = false) (y : Tup h9) : exec (P := Tryd.prog) D (lk rowsL) [C10 k, C12 k, C13 k hm, C15 k hm, C21 k, C17_1 k hm] k (bodyOf Tryd.f9) n9 (fnE Tryd.f9 A9 [] (inOf A9 (ofTup h9 y))) (fnSt [] (inOf A9 (ofTup h9 y))) (leafR D (fnE Tryd.f9 A9 [] (inOf A9 (ofTup h9 y))) Tryd.f9.results.toList (R9.map (·.h)) R9) = F9 k y.1 y.2.1 y.2.2.1 y.2.2.2.1 y.2.2.2.2.1 y.2.2.2.2.2.1 y.2.2.2.2.2.2.1 y.2.2.2.2.2.2.2 := by kernel_rfl
noncomputable def C9 (k : Nat) (hm : Mo.m = false) : Con Tryd.prog := ⟨9, Tryd.f9, Tryd.func9, by kernel_rfl, by kernel_rfl, A9, h9, [], R9, fun y => F9 k y.1 y.2.1 y.2.2.1 y.2.2.2.1 y.2.2.2.2.1 y.2.2.2.2.2.1 y.2.2.2.2.2.2.1 y.2.2.2.2.2.2.2, fun y r h => con_ok good mixed (c := bodyOf Tryd.f9) Tryd.func9 (by kernel_rfl) n9 y ((e9 k hm y).trans h)⟩
end Go.Proofs.YtlnadpijicfceaaDoor.N

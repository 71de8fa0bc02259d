/- What the functions compute, natively, and that they do. Printed by a program (wip/xg). -/
import Derived.Test.YtnmdjmfpihcglaaDoorMc4
import Derived.Test.YtnmdjmfpihcglaaDoorProg
import Derived.Test.YtnmdjmfpihcglaaDoorShelf
import Derived.Test.YtnmdjmfpihcglaaDoorBld
namespace Go.Proofs.YtnmdjmfpihcglaaDoor.N
open Go Go.RowKit Go.Proofs.YtnmdjmfpihcglaaDoor.Mc Go.Proofs
set_option maxRecDepth 100000
set_option maxHeartbeats 0
set_option linter.unusedVariables false
noncomputable abbrev D := decOf Tryd.prog
theorem good : Go.Proofs.YtnmdjmfpihcglaaDoor.Mc.Good Tryd.prog D := good_of _
theorem mixed : Tryd.prog.follows .mixedOrders = true := by kernel_rfl
def rowsL : List (Nat × Row) := [(22, (.str (.bool (.str .nil)))), (36, (.int .u8 .nil)), (43, (.str .nil)), (69, (.int .i64 .nil)), (76, (.int .i32 .nil))]
variable [Mo]
noncomputable def F31 (k : Nat) (x1 : ByteArray) (x2 : Int) : Option ByteArray :=
grd (bnds (x1.size : Int) 0 (mn (x1.size : Int) x2)) <|
some (x1.extract 0 ((mn (x1.size : Int) x2).toNat))
def A31 : CTpl := ⟨[.s, .i .i64], []⟩
def h31 : List HTy := [.ts, .ti]
def R31 : List RTpl := [⟨.s, [], [.ts]⟩]
def n31 : An := .nd
theorem e31 (k : Nat) (y : Tup h31) : exec (P := Tryd.prog) D (lk rowsL) [] k (bodyOf Tryd.f31) n31 (fnE Tryd.f31 A31 [] (inOf A31 (ofTup h31 y))) (fnSt [] (inOf A31 (ofTup h31 y))) (leafR D (fnE Tryd.f31 A31 [] (inOf A31 (ofTup h31 y))) Tryd.f31.results.toList (R31.map (·.h)) R31) = F31 k y.1 y.2 := by kernel_rfl
noncomputable def C31 (k : Nat) : Con Tryd.prog := ⟨31, Tryd.f31, Tryd.func31, by kernel_rfl, by kernel_rfl, A31, h31, [], R31, fun y => F31 k y.1 y.2, fun y r h => con_ok good mixed (c := bodyOf Tryd.f31) Tryd.func31 (by kernel_rfl) n31 y ((e31 k y).trans h)⟩
noncomputable def L13_8 (k : Nat) (x1 : (List (ByteArray × Bool × ByteArray))) (x2 : Int) (z33 : (Int × (List (ByteArray × Bool × ByteArray)))) : Option ((Int × (List (ByteArray × Bool × ByteArray))) ⊕ (List (ByteArray × Bool × ByteArray))) :=
((cond (decide (z33.1 < (x1.length : Int))) (
some (decide (z33.1 < x2))) (
some false) : Option Bool)).bind fun y34 => 
cond y34 (
(ix x1 z33.1).bind fun a35 =>
(F31 k a35.1 60).bind fun y36 => 
(ix x1 z33.1).bind fun a37 =>
(ix x1 z33.1).bind fun a38 =>
(F31 k a38.2.2 60).bind fun y39 => 
grd (decide ((z33.2.length + [(y36, a37.2.1, y39)].length) * 40 ≤ 140737488355328)) <|
some (.inl ((IntKind.wrap .i64 (z33.1 + 1)), (z33.2 ++ [(y36, a37.2.1, y39)])))) (
some (.inr z33.2))
noncomputable def F13 (k : Nat) (x1 : (List (ByteArray × Bool × ByteArray))) (x2 : Int) : Option (List (ByteArray × Bool × ByteArray)) :=
(loopN (L13_8 k x1 x2) k (0, ([] : List (ByteArray × Bool × ByteArray)))).bind fun y40 => 
some y40
def A13 : CTpl := ⟨[.fz .u (.str (.bool (.str .nil))), .i .i64], []⟩
def h13 : List HTy := [.tl (.str (.bool (.str .nil))), .ti]
def R13 : List RTpl := [⟨.sl .u 500000, [(500000, .ar 39 (.str (.bool (.str .nil))))], [.tl (.str (.bool (.str .nil)))]⟩]
def n13 : An := .sq (.nd) (.sq (.nd) (.sq (.sq (.nd) (.lp [0, 1] [] ⟨[(5, .sl .n 300400), (6, .i .i64)], [(300400, .ar 39 (.str (.bool (.str .nil))))]⟩ [.ti, .tl (.str (.bool (.str .nil)))] [(2, ⟨[(5, .sl .n 300425)], [(300425, .ar 39 (.str (.bool (.str .nil))))]⟩)] [[.tl (.str (.bool (.str .nil)))]] (.sq (.jn [5, 6] [300400] [(0, ⟨[(15, .b)], []⟩)] [[.tb]] (.nd) (.nd)) (.sq (.mk [] [0, 0, 0, 6, 14, 30, 62, 0, 0, 384, 896, 1920, 0, 0, 12288, 28672, 61440, 127102, 262142, 524286, 1048575, 2097151]) (.nd))))) (.nd)))
theorem e13 (k : Nat) (y : Tup h13) : exec (P := Tryd.prog) D (lk rowsL) [C31 k] k (bodyOf Tryd.f13) n13 (fnE Tryd.f13 A13 [] (inOf A13 (ofTup h13 y))) (fnSt [] (inOf A13 (ofTup h13 y))) (leafR D (fnE Tryd.f13 A13 [] (inOf A13 (ofTup h13 y))) Tryd.f13.results.toList (R13.map (·.h)) R13) = F13 k y.1 y.2 := by kernel_rfl
noncomputable def C13 (k : Nat) : Con Tryd.prog := ⟨13, Tryd.f13, Tryd.func13, by kernel_rfl, by kernel_rfl, A13, h13, [], R13, fun y => F13 k y.1 y.2, fun y r h => con_ok good mixed (c := bodyOf Tryd.f13) Tryd.func13 (by kernel_rfl) n13 y ((e13 k y).trans h)⟩
noncomputable def F66 (k : Nat) (x1 : ByteArray) (x2 : Int) (x3 : Int) (x4 : Int) : Option Bool :=
cond (decide (x2 < (x1.size : Int))) (
grd (decide (0 ≤ x2 ∧ x2 < (x1.size : Int))) <|
cond (decide (x3 ≤ (bt x1 x2))) (
grd (decide (0 ≤ x2 ∧ x2 < (x1.size : Int))) <|
some (decide ((bt x1 x2) ≤ x4))) (
some false)) (
some false)
def A66 : CTpl := ⟨[.s, .i .i64, .i .u8, .i .u8], []⟩
def h66 : List HTy := [.ts, .ti, .ti, .ti]
def R66 : List RTpl := [⟨.b, [], [.tb]⟩]
def n66 : An := .nd
theorem e66 (k : Nat) (y : Tup h66) : exec (P := Tryd.prog) D (lk rowsL) [] k (bodyOf Tryd.f66) n66 (fnE Tryd.f66 A66 [] (inOf A66 (ofTup h66 y))) (fnSt [] (inOf A66 (ofTup h66 y))) (leafR D (fnE Tryd.f66 A66 [] (inOf A66 (ofTup h66 y))) Tryd.f66.results.toList (R66.map (·.h)) R66) = F66 k y.1 y.2.1 y.2.2.1 y.2.2.2 := by kernel_rfl
noncomputable def C66 (k : Nat) : Con Tryd.prog := ⟨66, Tryd.f66, Tryd.func66, by kernel_rfl, by kernel_rfl, A66, h66, [], R66, fun y => F66 k y.1 y.2.1 y.2.2.1 y.2.2.2, fun y r h => con_ok good mixed (c := bodyOf Tryd.f66) Tryd.func66 (by kernel_rfl) n66 y ((e66 k y).trans h)⟩
noncomputable def F59 (k : Nat) (x1 : ByteArray) (x2 : Int) : Option (Int × Int) :=
grd (decide (0 ≤ x2 ∧ x2 < (x1.size : Int))) <|
cond (decide ((bt x1 x2) < 128)) (
some ((IntKind.wrap .i64 (bt x1 x2)), 1)) (
((cond (decide (194 ≤ (bt x1 x2))) (
cond (decide ((bt x1 x2) ≤ 223)) (
(F66 k x1 (IntKind.wrap .i64 (x2 + 1)) 128 191).bind fun y4 => 
some y4) (
some false)) (
some false) : Option Bool)).bind fun y5 => 
cond y5 (
grd (decide (0 ≤ (IntKind.wrap .i64 (x2 + 1)) ∧ (IntKind.wrap .i64 (x2 + 1)) < (x1.size : Int))) <|
some ((IntKind.wrap .i64 ((IntKind.wrap .i64 ((IntKind.wrap .i64 (bits .and .u8 (bt x1 x2) 31)) * 64)) + (IntKind.wrap .i64 (bits .and .u8 (bt x1 (IntKind.wrap .i64 (x2 + 1))) 63)))), 2)) (
((cond ((bt x1 x2) == 224) (
some (160, 191)) (
cond ((bt x1 x2) == 237) (
some (128, 159)) (
cond ((bt x1 x2) == 240) (
some (144, 191)) (
cond ((bt x1 x2) == 244) (
some (128, 143)) (
some (128, 191))))) : Option (Int × Int))).bind fun y6 => 
((cond (decide (224 ≤ (bt x1 x2))) (
cond (decide ((bt x1 x2) ≤ 239)) (
(F66 k x1 (IntKind.wrap .i64 (x2 + 1)) y6.1 y6.2).bind fun y12 => 
cond y12 (
(F66 k x1 (IntKind.wrap .i64 (x2 + 2)) 128 191).bind fun y13 => 
some y13) (
some false)) (
some false)) (
some false) : Option Bool)).bind fun y14 => 
cond y14 (
grd (decide (0 ≤ (IntKind.wrap .i64 (x2 + 1)) ∧ (IntKind.wrap .i64 (x2 + 1)) < (x1.size : Int))) <|
grd (decide (0 ≤ (IntKind.wrap .i64 (x2 + 2)) ∧ (IntKind.wrap .i64 (x2 + 2)) < (x1.size : Int))) <|
some ((IntKind.wrap .i64 ((IntKind.wrap .i64 ((IntKind.wrap .i64 ((IntKind.wrap .i64 (bits .and .u8 (bt x1 x2) 15)) * 4096)) + (IntKind.wrap .i64 ((IntKind.wrap .i64 (bits .and .u8 (bt x1 (IntKind.wrap .i64 (x2 + 1))) 63)) * 64)))) + (IntKind.wrap .i64 (bits .and .u8 (bt x1 (IntKind.wrap .i64 (x2 + 2))) 63)))), 3)) (
((cond (decide (240 ≤ (bt x1 x2))) (
cond (decide ((bt x1 x2) ≤ 244)) (
(F66 k x1 (IntKind.wrap .i64 (x2 + 1)) y6.1 y6.2).bind fun y22 => 
cond y22 (
(F66 k x1 (IntKind.wrap .i64 (x2 + 2)) 128 191).bind fun y23 => 
cond y23 (
(F66 k x1 (IntKind.wrap .i64 (x2 + 3)) 128 191).bind fun y24 => 
some y24) (
some false)) (
some false)) (
some false)) (
some false) : Option Bool)).bind fun y25 => 
cond y25 (
grd (decide (0 ≤ (IntKind.wrap .i64 (x2 + 1)) ∧ (IntKind.wrap .i64 (x2 + 1)) < (x1.size : Int))) <|
grd (decide (0 ≤ (IntKind.wrap .i64 (x2 + 2)) ∧ (IntKind.wrap .i64 (x2 + 2)) < (x1.size : Int))) <|
grd (decide (0 ≤ (IntKind.wrap .i64 (x2 + 3)) ∧ (IntKind.wrap .i64 (x2 + 3)) < (x1.size : Int))) <|
some ((IntKind.wrap .i64 ((IntKind.wrap .i64 ((IntKind.wrap .i64 ((IntKind.wrap .i64 ((IntKind.wrap .i64 (bits .and .u8 (bt x1 x2) 7)) * 262144)) + (IntKind.wrap .i64 ((IntKind.wrap .i64 (bits .and .u8 (bt x1 (IntKind.wrap .i64 (x2 + 1))) 63)) * 4096)))) + (IntKind.wrap .i64 ((IntKind.wrap .i64 (bits .and .u8 (bt x1 (IntKind.wrap .i64 (x2 + 2))) 63)) * 64)))) + (IntKind.wrap .i64 (bits .and .u8 (bt x1 (IntKind.wrap .i64 (x2 + 3))) 63)))), 4)) (
some (65533, 1)))))
def A59 : CTpl := ⟨[.s, .i .i64], []⟩
def h59 : List HTy := [.ts, .ti]
def R59 : List RTpl := [⟨.tp [.i .i64, .i .i64], [], [.ti, .ti]⟩]
def n59 : An := .sq (.nd) (.sq (.nd) (.sq (.sq (.nd) (.sq (.nd) (.jn [0, 1, 6] [] [(0, ⟨[(17, .b)], []⟩)] [[.tb]] (.nd) (.nd)))) (.sq (.nd) (.jn [0, 1, 6] [] [(0, ⟨[(7, .i .u8), (8, .i .u8)], []⟩)] [[.ti, .ti]] (.nd) (.sq (.jn [0, 1, 6, 7, 8] [] [(0, ⟨[(69, .b)], []⟩)] [[.tb]] (.nd) (.sq (.sq (.mk [] [0, 1, 3, 7, 0, 0, 32, 112, 240, 496, 1008, 2047, 0, 0, 8192, 28672, 61440, 126976, 262143, 524287, 1048575]) (.nd)) (.nd))) (.sq (.jn [0, 1, 6] [] [(0, ⟨[(114, .b)], []⟩)] [[.tb]] (.nd) (.sq (.sq (.mk [] [0, 1, 3, 7, 0, 0, 32, 112, 240, 496, 1008, 2047, 0, 0, 8192, 28672, 61440, 126976, 258048, 524287, 0, 0, 2097152, 7340032, 15728640, 32505856, 67108863, 134217727, 268435455]) (.nd)) (.nd))) (.nd)))))))
theorem e59 (k : Nat) (y : Tup h59) : exec (P := Tryd.prog) D (lk rowsL) [C66 k] k (bodyOf Tryd.f59) n59 (fnE Tryd.f59 A59 [] (inOf A59 (ofTup h59 y))) (fnSt [] (inOf A59 (ofTup h59 y))) (leafR D (fnE Tryd.f59 A59 [] (inOf A59 (ofTup h59 y))) Tryd.f59.results.toList (R59.map (·.h)) R59) = F59 k y.1 y.2 := by kernel_rfl
noncomputable def C59 (k : Nat) : Con Tryd.prog := ⟨59, Tryd.f59, Tryd.func59, by kernel_rfl, by kernel_rfl, A59, h59, [], R59, fun y => F59 k y.1 y.2, fun y r h => con_ok good mixed (c := bodyOf Tryd.f59) Tryd.func59 (by kernel_rfl) n59 y ((e59 k y).trans h)⟩
noncomputable def L46_8 (k : Nat) (x1 : ByteArray) (z8 : (Int × (List Int) × (List Int))) : Option ((Int × (List Int) × (List Int)) ⊕ ((List Int) × (List Int))) :=
cond (decide (z8.1 < (x1.size : Int))) (
(F59 k x1 z8.1).bind fun y9 => 
grd (decide ((z8.2.1.length + [y9.1].length) * 8 ≤ 140737488355328)) <|
grd (decide ((z8.2.2.length + [y9.2].length) * 8 ≤ 140737488355328)) <|
some (.inl ((IntKind.wrap .i64 (z8.1 + y9.2)), (z8.2.1 ++ [y9.1]), (z8.2.2 ++ [y9.2])))) (
some (.inr (z8.2.1, z8.2.2)))
noncomputable def F46 (k : Nat) (x1 : ByteArray) : Option ((List Int) × (List Int)) :=
(loopN (L46_8 k x1) k (0, ([] : List Int), ([] : List Int))).bind fun y10 => 
some (y10.1, y10.2)
def A46 : CTpl := ⟨[.s], []⟩
def h46 : List HTy := [.ts]
def R46 : List RTpl := [⟨.tp [.sl .u 500000, .sl .u 500001], [(500000, .ar 3 (.int .i64 .nil)), (500001, .ar 3 (.int .i64 .nil))], [.tl (.int .i64 .nil), .tl (.int .i64 .nil)]⟩]
def n46 : An := .sq (.nd) (.sq (.nd) (.sq (.sq (.nd) (.lp [0] [] ⟨[(4, .sl .n 300400), (5, .sl .n 300401), (6, .i .i64)], [(300400, .ar 3 (.int .i64 .nil)), (300401, .ar 3 (.int .i64 .nil))]⟩ [.ti, .tl (.int .i64 .nil), .tl (.int .i64 .nil)] [(2, ⟨[(4, .sl .n 300425), (5, .sl .n 300426)], [(300425, .ar 3 (.int .i64 .nil)), (300426, .ar 3 (.int .i64 .nil))]⟩)] [[.tl (.int .i64 .nil), .tl (.int .i64 .nil)]] (.nd))) (.nd)))
theorem e46 (k : Nat) (y : Tup h46) : exec (P := Tryd.prog) D (lk rowsL) [C59 k] k (bodyOf Tryd.f46) n46 (fnE Tryd.f46 A46 [] (inOf A46 (ofTup h46 y))) (fnSt [] (inOf A46 (ofTup h46 y))) (leafR D (fnE Tryd.f46 A46 [] (inOf A46 (ofTup h46 y))) Tryd.f46.results.toList (R46.map (·.h)) R46) = F46 k y := by kernel_rfl
noncomputable def C46 (k : Nat) : Con Tryd.prog := ⟨46, Tryd.f46, Tryd.func46, by kernel_rfl, by kernel_rfl, A46, h46, [], R46, fun y => F46 k y, fun y r h => con_ok good mixed (c := bodyOf Tryd.f46) Tryd.func46 (by kernel_rfl) n46 y ((e46 k y).trans h)⟩
noncomputable def L60_10 (k : Nat) (y2 : ((List Int) × (List Int))) (y4 : ((List Int) × (List Int))) (z40 : Int) : Option (Int ⊕ Int) :=
((cond (decide (z40 < (y2.1.length : Int))) (
cond (decide (z40 < (y4.1.length : Int))) (
(ix y2.1 z40).bind fun a41 =>
(y2.1[z40.toNat]?).bind fun a42 =>
(ix y4.1 z40).bind fun a43 =>
(y4.1[z40.toNat]?).bind fun a44 =>
some (a42 == a44)) (
some false)) (
some false) : Option Bool)).bind fun y45 => 
cond y45 (
some (.inl (IntKind.wrap .i64 (z40 + 1)))) (
some (.inr z40))
noncomputable def F60 (k : Nat) (x1 : ByteArray) (x2 : ByteArray) : Option Int :=
(F46 k x1).bind fun y2 => 
(F46 k x2).bind fun y4 => 
(loopN (L60_10 k y2 y4) k 0).bind fun y46 => 
some y46
def A60 : CTpl := ⟨[.s, .s], []⟩
def h60 : List HTy := [.ts, .ts]
def R60 : List RTpl := [⟨.i .i64, [], [.ti]⟩]
def n60 : An := .sq (.nd) (.sq (.nd) (.sq (.nd) (.sq (.nd) (.sq (.lp [5, 7] [401200, 401700] ⟨[(9, .i .i64)], []⟩ [.ti] [(2, ⟨[(9, .i .i64)], []⟩)] [[.ti]] (.sq (.jn [9] [] [(0, ⟨[(40, .b)], []⟩)] [[.tb]] (.mk [] [0, 0, 2, 7, 15, 31, 31, 95, 255, 511, 1023, 2047, 2047, 8191, 16383, 2047, 2047, 100351, 231423, 524287, 1048575]) (.nd)) (.nd))) (.nd)))))
theorem e60 (k : Nat) (y : Tup h60) : exec (P := Tryd.prog) D (lk rowsL) [C46 k] k (bodyOf Tryd.f60) n60 (fnE Tryd.f60 A60 [] (inOf A60 (ofTup h60 y))) (fnSt [] (inOf A60 (ofTup h60 y))) (leafR D (fnE Tryd.f60 A60 [] (inOf A60 (ofTup h60 y))) Tryd.f60.results.toList (R60.map (·.h)) R60) = F60 k y.1 y.2 := by kernel_rfl
noncomputable def C60 (k : Nat) : Con Tryd.prog := ⟨60, Tryd.f60, Tryd.func60, by kernel_rfl, by kernel_rfl, A60, h60, [], R60, fun y => F60 k y.1 y.2, fun y r h => con_ok good mixed (c := bodyOf Tryd.f60) Tryd.func60 (by kernel_rfl) n60 y ((e60 k y).trans h)⟩
noncomputable def F48 (k : Nat) (x1 : ByteArray) (x2 : ByteArray) : Option Int :=
(F46 k x1).bind fun y2 => 
(F46 k x2).bind fun y4 => 
(F60 k x1 x2).bind fun y6 => 
((cond (y6 == (y2.1.length : Int)) (
some (y6 == (y4.1.length : Int))) (
some false) : Option Bool)).bind fun y12 => 
cond y12 (
some 0) (
cond (y6 == (y2.1.length : Int)) (
some (-1)) (
cond (y6 == (y4.1.length : Int)) (
some 1) (
(ix y2.1 y6).bind fun a13 =>
(y2.1[y6.toNat]?).bind fun a14 =>
(ix y4.1 y6).bind fun a15 =>
(y4.1[y6.toNat]?).bind fun a16 =>
cond (decide (a14 < a16)) (
some (-1)) (
some 1))))
def A48 : CTpl := ⟨[.s, .s], []⟩
def h48 : List HTy := [.ts, .ts]
def R48 : List RTpl := [⟨.i .i64, [], [.ti]⟩]
def n48 : An := .sq (.nd) (.sq (.nd) (.sq (.nd) (.sq (.nd) (.sq (.jn [5, 7, 9] [401200, 401700] [(0, ⟨[(23, .b)], []⟩)] [[.tb]] (.nd) (.sq (.nd) (.sq (.nd) (.sq (.nd) (.sq (.nd) (.sq (.nd) (.sq (.mk [] [0, 0, 3, 7, 0, 0, 48, 112, 255, 511]) (.nd)))))))) (.nd)))))
theorem e48 (k : Nat) (y : Tup h48) : exec (P := Tryd.prog) D (lk rowsL) [C46 k, C60 k] k (bodyOf Tryd.f48) n48 (fnE Tryd.f48 A48 [] (inOf A48 (ofTup h48 y))) (fnSt [] (inOf A48 (ofTup h48 y))) (leafR D (fnE Tryd.f48 A48 [] (inOf A48 (ofTup h48 y))) Tryd.f48.results.toList (R48.map (·.h)) R48) = F48 k y.1 y.2 := by kernel_rfl
noncomputable def C48 (k : Nat) : Con Tryd.prog := ⟨48, Tryd.f48, Tryd.func48, by kernel_rfl, by kernel_rfl, A48, h48, [], R48, fun y => F48 k y.1 y.2, fun y r h => con_ok good mixed (c := bodyOf Tryd.f48) Tryd.func48 (by kernel_rfl) n48 y ((e48 k y).trans h)⟩
noncomputable def F30 (k : Nat) (x1 : ByteArray) (x2 : ByteArray) : Option Bool :=
(F48 k x1 x2).bind fun y2 => 
cond (decide (y2 < 0)) (
some true) (
cond (y2 == 0) (
some (Op.bytesLess x1.toList x2.toList)) (
some false))
def A30 : CTpl := ⟨[.s, .s], []⟩
def h30 : List HTy := [.ts, .ts]
def R30 : List RTpl := [⟨.b, [], [.tb]⟩]
def n30 : An := .nd
theorem e30 (k : Nat) (y : Tup h30) : exec (P := Tryd.prog) D (lk rowsL) [C48 k] k (bodyOf Tryd.f30) n30 (fnE Tryd.f30 A30 [] (inOf A30 (ofTup h30 y))) (fnSt [] (inOf A30 (ofTup h30 y))) (leafR D (fnE Tryd.f30 A30 [] (inOf A30 (ofTup h30 y))) Tryd.f30.results.toList (R30.map (·.h)) R30) = F30 k y.1 y.2 := by kernel_rfl
noncomputable def C30 (k : Nat) : Con Tryd.prog := ⟨30, Tryd.f30, Tryd.func30, by kernel_rfl, by kernel_rfl, A30, h30, [], R30, fun y => F30 k y.1 y.2, fun y r h => con_ok good mixed (c := bodyOf Tryd.f30) Tryd.func30 (by kernel_rfl) n30 y ((e30 k y).trans h)⟩
noncomputable def L43_21 (k : Nat) (x1 : (List ByteArray)) (z115 : (Int × (List ByteArray))) (z116 : Int) : Option (Int ⊕ Int) :=
((cond (decide (z116 < (z115.2.length : Int))) (
(ix z115.2 z116).bind fun a117 =>
(z115.2[z116.toNat]?).bind fun a118 =>
(ix x1 z115.1).bind fun a119 =>
(F30 k a118 a119).bind fun y120 => 
some y120) (
some false) : Option Bool)).bind fun y121 => 
cond y121 (
some (.inl (IntKind.wrap .i64 (z116 + 1)))) (
some (.inr z116))
noncomputable def L43_8 (k : Nat) (x1 : (List ByteArray)) (z115 : (Int × (List ByteArray))) : Option ((Int × (List ByteArray)) ⊕ (List ByteArray)) :=
cond (decide (z115.1 < (x1.length : Int))) (
(((loopN (L43_21 k x1 z115) k 0).bind fun y122 => 
((cond (decide (y122 < (z115.2.length : Int))) (
(ix z115.2 y122).bind fun a123 =>
(z115.2[y122.toNat]?).bind fun a124 =>
(ix x1 z115.1).bind fun a125 =>
some (a124.toList == a125.toList)) (
some false) : Option Bool)).bind fun y126 => 
cond y126 (
some z115.2) (
grd (bnds (z115.2.length : Int) 0 y122) <|
grd (decide ((([] : List ByteArray).length + ((z115.2.drop 0).take (y122.toNat - 0)).length) * 16 ≤ 140737488355328)) <|
(ix x1 z115.1).bind fun a127 =>
grd (decide (((([] : List ByteArray) ++ ((z115.2.drop 0).take (y122.toNat - 0))).length + [a127].length) * 16 ≤ 140737488355328)) <|
grd (bnds (z115.2.length : Int) y122 (z115.2.length : Int)) <|
grd (decide ((((([] : List ByteArray) ++ ((z115.2.drop 0).take (y122.toNat - 0))) ++ [a127]).length + ((z115.2.drop y122.toNat).take (((z115.2.length : Int).toNat) - y122.toNat)).length) * 16 ≤ 140737488355328)) <|
some (((([] : List ByteArray) ++ ((z115.2.drop 0).take (y122.toNat - 0))) ++ [a127]) ++ ((z115.2.drop y122.toNat).take (((z115.2.length : Int).toNat) - y122.toNat)))) : Option (List ByteArray))).bind fun y128 => 
some (.inl ((IntKind.wrap .i64 (z115.1 + 1)), y128))) (
some (.inr z115.2))
noncomputable def F43 (k : Nat) (x1 : (List ByteArray)) : Option (List ByteArray) :=
(loopN (L43_8 k x1) k (0, ([] : List ByteArray))).bind fun y129 => 
some y129
def A43 : CTpl := ⟨[.fz .u (.str .nil)], []⟩
def h43 : List HTy := [.tl (.str .nil)]
def R43 : List RTpl := [⟨.sl .u 500000, [(500000, .ar 9 (.str .nil))], [.tl (.str .nil)]⟩]
def n43 : An := .sq (.nd) (.sq (.nd) (.sq (.sq (.nd) (.lp [0] [] ⟨[(3, .sl .n 300400), (4, .i .i64)], [(300400, .ar 9 (.str .nil))]⟩ [.ti, .tl (.str .nil)] [(2, ⟨[(3, .sl .n 300425)], [(300425, .ar 9 (.str .nil))]⟩)] [[.tl (.str .nil)]] (.sq (.nd) (.jn [4] [] [(0, ⟨[(3, .sl .n 300750)], [(300750, .ar 9 (.str .nil))]⟩)] [[.tl (.str .nil)]] (.sq (.nd) (.sq (.lp [3] [300400] ⟨[(5, .i .i64)], []⟩ [.ti] [(4, ⟨[(5, .i .i64)], []⟩)] [[.ti]] (.sq (.jn [5] [] [(0, ⟨[(26, .b)], []⟩)] [[.tb]] (.mk [] [0, 0, 2, 7, 15, 31, 31, 127, 255, 31, 31, 1567, 3615, 8191, 16383]) (.nd)) (.nd))) (.sq (.jn [3, 5] [300400] [(0, ⟨[(43, .b)], []⟩)] [[.tb]] (.mk [] [0, 0, 2, 7, 15, 31, 31, 127, 255, 31, 31, 1567, 3615, 8191, 16383]) (.nd)) (.mk [] [0, 0, 3, 7, 0, 0, 48, 112, 240, 511, 0, 0, 3072, 8191, 16383])))) (.nd))))) (.nd)))
theorem e43 (k : Nat) (y : Tup h43) : exec (P := Tryd.prog) D (lk rowsL) [C30 k] k (bodyOf Tryd.f43) n43 (fnE Tryd.f43 A43 [] (inOf A43 (ofTup h43 y))) (fnSt [] (inOf A43 (ofTup h43 y))) (leafR D (fnE Tryd.f43 A43 [] (inOf A43 (ofTup h43 y))) Tryd.f43.results.toList (R43.map (·.h)) R43) = F43 k y := by kernel_rfl
noncomputable def C43 (k : Nat) : Con Tryd.prog := ⟨43, Tryd.f43, Tryd.func43, by kernel_rfl, by kernel_rfl, A43, h43, [], R43, fun y => F43 k y, fun y r h => con_ok good mixed (c := bodyOf Tryd.f43) Tryd.func43 (by kernel_rfl) n43 y ((e43 k y).trans h)⟩
noncomputable def L25_8 (k : Nat) (x1 : (List (ByteArray × Bool × ByteArray))) (z8 : (Int × (List ByteArray))) : Option ((Int × (List ByteArray)) ⊕ (List ByteArray)) :=
cond (decide (z8.1 < (x1.length : Int))) (
(ix x1 z8.1).bind fun a9 =>
grd (decide ((z8.2.length + [a9.1].length) * 16 ≤ 140737488355328)) <|
some (.inl ((IntKind.wrap .i64 (z8.1 + 1)), (z8.2 ++ [a9.1])))) (
some (.inr z8.2))
noncomputable def F25 (k : Nat) (x1 : (List (ByteArray × Bool × ByteArray))) : Option (List ByteArray) :=
(loopN (L25_8 k x1) k (0, ([] : List ByteArray))).bind fun y10 => 
(F43 k y10).bind fun y11 => 
some y11
def A25 : CTpl := ⟨[.fz .u (.str (.bool (.str .nil)))], []⟩
def h25 : List HTy := [.tl (.str (.bool (.str .nil)))]
def R25 : List RTpl := [⟨.sl .u 500000, [(500000, .ar 9 (.str .nil))], [.tl (.str .nil)]⟩]
def n25 : An := .sq (.nd) (.sq (.nd) (.sq (.sq (.nd) (.lp [0] [] ⟨[(3, .sl .n 300400), (4, .i .i64)], [(300400, .ar 9 (.str .nil))]⟩ [.ti, .tl (.str .nil)] [(2, ⟨[(3, .sl .n 300425)], [(300425, .ar 9 (.str .nil))]⟩)] [[.tl (.str .nil)]] (.nd))) (.sq (.fr [(1, 300425)]) (.nd))))
theorem e25 (k : Nat) (y : Tup h25) : exec (P := Tryd.prog) D (lk rowsL) [C43 k] k (bodyOf Tryd.f25) n25 (fnE Tryd.f25 A25 [] (inOf A25 (ofTup h25 y))) (fnSt [] (inOf A25 (ofTup h25 y))) (leafR D (fnE Tryd.f25 A25 [] (inOf A25 (ofTup h25 y))) Tryd.f25.results.toList (R25.map (·.h)) R25) = F25 k y := by kernel_rfl
noncomputable def C25 (k : Nat) : Con Tryd.prog := ⟨25, Tryd.f25, Tryd.func25, by kernel_rfl, by kernel_rfl, A25, h25, [], R25, fun y => F25 k y, fun y r h => con_ok good mixed (c := bodyOf Tryd.f25) Tryd.func25 (by kernel_rfl) n25 y ((e25 k y).trans h)⟩
noncomputable def L22_6 (k : Nat) (x1 : (List (ByteArray × Bool × ByteArray))) (x2 : ByteArray) (z13 : (Int × ByteArray × ByteArray)) : Option ((Int × ByteArray × ByteArray) ⊕ ((ByteArray × Bool × ByteArray) ⊕ (ByteArray × ByteArray))) :=
cond (decide (0 ≤ z13.1)) (
(ix x1 z13.1).bind fun a14 =>
cond (a14.1.toList == x2.toList) (
(ix x1 z13.1).bind fun a15 =>
some (.inr (.inl (a15.1, a15.2.1, a15.2.2)))) (
some (.inl ((IntKind.wrap .i64 (z13.1 - 1)), z13.2.1, z13.2.2)))) (
some (.inr (.inr (z13.2.1, z13.2.2))))
noncomputable def F22 (k : Nat) (x1 : (List (ByteArray × Bool × ByteArray))) (x2 : ByteArray) : Option (ByteArray × Bool × ByteArray × Bool) :=
(loopN (L22_6 k x1 x2) k ((IntKind.wrap .i64 ((x1.length : Int) - 1)), ByteArray.empty, ByteArray.empty)).bind fun y16 => 
sel (fun y17 =>
some (y17.1, y17.2.1, y17.2.2, true)) (fun y18 =>
some (ByteArray.empty, false, ByteArray.empty, false)) y16
def A22 : CTpl := ⟨[.fz .u (.str (.bool (.str .nil))), .s], []⟩
def h22 : List HTy := [.tl (.str (.bool (.str .nil))), .ts]
def R22 : List RTpl := [⟨.tp [.ag [.s, .b, .s], .b], [], [.ts, .tb, .ts, .tb]⟩]
def n22 : An := .sq (.nd) (.sq (.sq (.nd) (.lp [0, 1, 4] [] ⟨[(6, .i .i64)], [(4, .bx 39 [.s, .lb false, .s])]⟩ [.ti, .ts, .ts] [(1, ⟨[(5, .lb true)], [(4, .bx 39 [.s, .b, .s])]⟩), (2, ⟨[], [(4, .bx 39 [.s, .lb false, .s])]⟩)] [[.ts, .tb, .ts], [.ts, .ts]] (.nd))) (.nd))
theorem e22 (k : Nat) (y : Tup h22) : exec (P := Tryd.prog) D (lk rowsL) [] k (bodyOf Tryd.f22) n22 (fnE Tryd.f22 A22 [] (inOf A22 (ofTup h22 y))) (fnSt [] (inOf A22 (ofTup h22 y))) (leafR D (fnE Tryd.f22 A22 [] (inOf A22 (ofTup h22 y))) Tryd.f22.results.toList (R22.map (·.h)) R22) = F22 k y.1 y.2 := by kernel_rfl
noncomputable def C22 (k : Nat) : Con Tryd.prog := ⟨22, Tryd.f22, Tryd.func22, by kernel_rfl, by kernel_rfl, A22, h22, [], R22, fun y => F22 k y.1 y.2, fun y r h => con_ok good mixed (c := bodyOf Tryd.f22) Tryd.func22 (by kernel_rfl) n22 y ((e22 k y).trans h)⟩
noncomputable def L19_10 (k : Nat) (x1 : (List (ByteArray × Bool × ByteArray))) (y2 : (List ByteArray)) (z31 : (Int × (List (ByteArray × Bool × ByteArray)))) : Option ((Int × (List (ByteArray × Bool × ByteArray))) ⊕ (List (ByteArray × Bool × ByteArray))) :=
cond (decide (z31.1 < (y2.length : Int))) (
(ix y2 z31.1).bind fun a32 =>
(y2[z31.1.toNat]?).bind fun a33 =>
(F22 k x1 a33).bind fun y34 => 
((cond y34.2.1 (
some (y34.1, y34.2.1, (⟨#[]⟩ : ByteArray))) (
some (y34.1, y34.2.1, y34.2.2.1)) : Option (ByteArray × Bool × ByteArray))).bind fun y35 => 
grd (decide ((z31.2.length + [(y35.1, y35.2.1, y35.2.2)].length) * 40 ≤ 140737488355328)) <|
some (.inl ((IntKind.wrap .i64 (z31.1 + 1)), (z31.2 ++ [(y35.1, y35.2.1, y35.2.2)])))) (
some (.inr z31.2))
noncomputable def F19 (k : Nat) (x1 : (List (ByteArray × Bool × ByteArray))) : Option (List (ByteArray × Bool × ByteArray)) :=
(F25 k x1).bind fun y2 => 
(loopN (L19_10 k x1 y2) k (0, ([] : List (ByteArray × Bool × ByteArray)))).bind fun y36 => 
some y36
def A19 : CTpl := ⟨[.fz .u (.str (.bool (.str .nil)))], []⟩
def h19 : List HTy := [.tl (.str (.bool (.str .nil)))]
def R19 : List RTpl := [⟨.sl .u 500000, [(500000, .ar 39 (.str (.bool (.str .nil))))], [.tl (.str (.bool (.str .nil)))]⟩]
def n19 : An := .sq (.nd) (.sq (.nd) (.sq (.nd) (.sq (.sq (.nd) (.lp [0, 3] [400900] ⟨[(4, .sl .n 300500), (5, .i .i64)], [(300500, .ar 39 (.str (.bool (.str .nil))))]⟩ [.ti, .tl (.str (.bool (.str .nil)))] [(2, ⟨[(4, .sl .n 300525)], [(300525, .ar 39 (.str (.bool (.str .nil))))]⟩)] [[.tl (.str (.bool (.str .nil)))]] (.sq (.nd) (.sq (.sq (.nd) (.jn [4, 5, 6] [300500] [(0, ⟨[], [(6, .bx 39 [.s, .b, .s])]⟩)] [[.ts, .tb, .ts]] (.nd) (.nd))) (.nd))))) (.nd))))
theorem e19 (k : Nat) (y : Tup h19) : exec (P := Tryd.prog) D (lk rowsL) [C25 k, C22 k] k (bodyOf Tryd.f19) n19 (fnE Tryd.f19 A19 [] (inOf A19 (ofTup h19 y))) (fnSt [] (inOf A19 (ofTup h19 y))) (leafR D (fnE Tryd.f19 A19 [] (inOf A19 (ofTup h19 y))) Tryd.f19.results.toList (R19.map (·.h)) R19) = F19 k y := by kernel_rfl
noncomputable def C19 (k : Nat) : Con Tryd.prog := ⟨19, Tryd.f19, Tryd.func19, by kernel_rfl, by kernel_rfl, A19, h19, [], R19, fun y => F19 k y, fun y r h => con_ok good mixed (c := bodyOf Tryd.f19) Tryd.func19 (by kernel_rfl) n19 y ((e19 k y).trans h)⟩
noncomputable def F47 (k : Nat) (x1 : Int) (x2 : Int) : Option Bool :=
cond (decide (33 ≤ x1)) (
cond (decide (127 ≤ x1)) (
cond (!(decide (x1 ≤ 160))) (
cond (x1 == 65533) (
some (!(x2 == 1))) (
some true)) (
some false)) (
cond (x1 == 65533) (
some (!(x2 == 1))) (
some true))) (
some false)
def A47 : CTpl := ⟨[.i .i64, .i .i64], []⟩
def h47 : List HTy := [.ti, .ti]
def R47 : List RTpl := [⟨.b, [], [.tb]⟩]
def n47 : An := .nd
theorem e47 (k : Nat) (y : Tup h47) : exec (P := Tryd.prog) D (lk rowsL) [] k (bodyOf Tryd.f47) n47 (fnE Tryd.f47 A47 [] (inOf A47 (ofTup h47 y))) (fnSt [] (inOf A47 (ofTup h47 y))) (leafR D (fnE Tryd.f47 A47 [] (inOf A47 (ofTup h47 y))) Tryd.f47.results.toList (R47.map (·.h)) R47) = F47 k y.1 y.2 := by kernel_rfl
noncomputable def C47 (k : Nat) : Con Tryd.prog := ⟨47, Tryd.f47, Tryd.func47, by kernel_rfl, by kernel_rfl, A47, h47, [], R47, fun y => F47 k y.1 y.2, fun y r h => con_ok good mixed (c := bodyOf Tryd.f47) Tryd.func47 (by kernel_rfl) n47 y ((e47 k y).trans h)⟩
noncomputable def L29_8 (k : Nat) (y2 : ((List Int) × (List Int))) (z42 : Int) : Option (Int ⊕ (Unit ⊕ Unit)) :=
cond (decide (z42 < (y2.1.length : Int))) (
(ix y2.1 z42).bind fun a43 =>
(y2.1[z42.toNat]?).bind fun a44 =>
(ix y2.2 z42).bind fun a45 =>
(y2.2[z42.toNat]?).bind fun a46 =>
(F47 k a44 a46).bind fun y47 => 
cond (!y47) (
some (.inr (.inl ()))) (
some (.inl (IntKind.wrap .i64 (z42 + 1))))) (
some (.inr (.inr ())))
noncomputable def F29 (k : Nat) (x1 : ByteArray) : Option Bool :=
(F46 k x1).bind fun y2 => 
(loopN (L29_8 k y2) k 0).bind fun y48 => 
sel (fun y49 =>
some false) (fun y50 =>
cond (decide (1 ≤ (y2.1.length : Int))) (
some (decide ((y2.1.length : Int) ≤ 12))) (
some false)) y48
def A29 : CTpl := ⟨[.s], []⟩
def h29 : List HTy := [.ts]
def R29 : List RTpl := [⟨.b, [], [.tb]⟩]
def n29 : An := .sq (.nd) (.sq (.nd) (.sq (.sq (.nd) (.lp [3, 4] [400800, 400801] ⟨[(5, .i .i64)], []⟩ [.ti] [(1, ⟨[(2, .lb false)], []⟩), (2, ⟨[], []⟩)] [[], []] (.sq (.nd) (.sq (.sq (.mk [] [0, 0, 3, 7, 0, 0, 48, 112, 255, 511]) (.nd)) (.nd))))) (.nd)))
theorem e29 (k : Nat) (y : Tup h29) : exec (P := Tryd.prog) D (lk rowsL) [C46 k, C47 k] k (bodyOf Tryd.f29) n29 (fnE Tryd.f29 A29 [] (inOf A29 (ofTup h29 y))) (fnSt [] (inOf A29 (ofTup h29 y))) (leafR D (fnE Tryd.f29 A29 [] (inOf A29 (ofTup h29 y))) Tryd.f29.results.toList (R29.map (·.h)) R29) = F29 k y := by kernel_rfl
noncomputable def C29 (k : Nat) : Con Tryd.prog := ⟨29, Tryd.f29, Tryd.func29, by kernel_rfl, by kernel_rfl, A29, h29, [], R29, fun y => F29 k y, fun y r h => con_ok good mixed (c := bodyOf Tryd.f29) Tryd.func29 (by kernel_rfl) n29 y ((e29 k y).trans h)⟩
noncomputable def L12_14 (k : Nat) (x1 : (List (ByteArray × Bool × ByteArray))) (z75 : Int) : Option (Int ⊕ (Int ⊕ Unit)) :=
cond (decide (z75 < (x1.length : Int))) (
(ix x1 z75).bind fun a76 =>
(F29 k a76.1).bind fun y77 => 
cond (!y77) (
some (.inr (.inl 10))) (
(ix x1 z75).bind fun a78 =>
cond (decide (48 < (a78.2.2.size : Int))) (
some (.inr (.inl 11))) (
(((ix x1 z75).bind fun a79 =>
cond a79.2.1 (
(ix x1 z75).bind fun a80 =>
cond (!(a80.2.2.toList == (⟨#[]⟩ : ByteArray).toList)) (
some true) (
cond (decide (0 < z75)) (
(ix x1 (IntKind.wrap .i64 (z75 - 1))).bind fun a81 =>
(ix x1 z75).bind fun a82 =>
(F30 k a81.1 a82.1).bind fun y83 => 
some (!y83)) (
some false))) (
cond (decide (0 < z75)) (
(ix x1 (IntKind.wrap .i64 (z75 - 1))).bind fun a84 =>
(ix x1 z75).bind fun a85 =>
(F30 k a84.1 a85.1).bind fun y86 => 
some (!y86)) (
some false)) : Option Bool)).bind fun y87 => 
cond y87 (
some (.inr (.inl 2))) (
some (.inl (IntKind.wrap .i64 (z75 + 1))))))) (
some (.inr (.inr ())))
noncomputable def F12 (k : Nat) (x1 : (List (ByteArray × Bool × ByteArray))) : Option Int :=
((cond (decide ((x1.length : Int) < 1)) (
some true) (
some (decide (8 < (x1.length : Int)))) : Option Bool)).bind fun y2 => 
cond y2 (
some 12) (
(loopN (L12_14 k x1) k 0).bind fun y88 => 
sel (fun y89 =>
some y89) (fun y90 =>
some 0) y88)
def A12 : CTpl := ⟨[.fz .u (.str (.bool (.str .nil)))], []⟩
def h12 : List HTy := [.tl (.str (.bool (.str .nil)))]
def R12 : List RTpl := [⟨.i .i64, [], [.ti]⟩]
def n12 : An := .sq (.nd) (.sq (.jn [0] [] [(0, ⟨[(11, .b)], []⟩)] [[.tb]] (.nd) (.nd)) (.sq (.sq (.nd) (.lp [0] [] ⟨[(3, .i .i64)], []⟩ [.ti] [(1, ⟨[(2, .i .i64)], []⟩), (2, ⟨[], []⟩)] [[.ti], []] (.sq (.nd) (.sq (.sq (.nd) (.sq (.nd) (.jn [3] [] [(0, ⟨[(63, .b)], []⟩)] [[.tb]] (.mk [] [0, 0, 3, 7, 15, 31, 63, 63, 255, 511, 1023, 2047, 4095, 8191, 16383, 32767, 65535, 131071, 131071, 393215, 1048575, 2097151, 4194303, 131071, 131071, 25296895, 58851327, 125960191, 268435455, 536870911, 1073741823, 2147483647]) (.nd)))) (.nd))))) (.nd)))
theorem e12 (k : Nat) (y : Tup h12) : exec (P := Tryd.prog) D (lk rowsL) [C29 k, C30 k] k (bodyOf Tryd.f12) n12 (fnE Tryd.f12 A12 [] (inOf A12 (ofTup h12 y))) (fnSt [] (inOf A12 (ofTup h12 y))) (leafR D (fnE Tryd.f12 A12 [] (inOf A12 (ofTup h12 y))) Tryd.f12.results.toList (R12.map (·.h)) R12) = F12 k y := by kernel_rfl
noncomputable def C12 (k : Nat) : Con Tryd.prog := ⟨12, Tryd.f12, Tryd.func12, by kernel_rfl, by kernel_rfl, A12, h12, [], R12, fun y => F12 k y, fun y r h => con_ok good mixed (c := bodyOf Tryd.f12) Tryd.func12 (by kernel_rfl) n12 y ((e12 k y).trans h)⟩
noncomputable def L36_6 (k : Nat) (z3 : (Int × (List Int))) : Option ((Int × (List Int)) ⊕ (Int × (List Int))) :=
cond (decide (128 ≤ z3.1)) (
grd (decide ((z3.2.length + [(IntKind.wrap .u8 ((IntKind.wrap .u8 (z3.1.tmod 128)) + 128))].length) * 1 ≤ 140737488355328)) <|
some (.inl ((IntKind.wrap .u32 (z3.1.tdiv 128)), (z3.2 ++ [(IntKind.wrap .u8 ((IntKind.wrap .u8 (z3.1.tmod 128)) + 128))])))) (
some (.inr (z3.1, z3.2)))
noncomputable def F36 (k : Nat) (x1 : Int) : Option ByteArray :=
(loopN (L36_6 k) k (x1, ([] : List Int))).bind fun y4 => 
grd (decide ((y4.2.length + [(IntKind.wrap .u8 y4.1)].length) * 1 ≤ 140737488355328)) <|
some (strOfNums (y4.2 ++ [(IntKind.wrap .u8 y4.1)]))
def A36 : CTpl := ⟨[.i .u32], []⟩
def h36 : List HTy := [.ti]
def R36 : List RTpl := [⟨.s, [], [.ts]⟩]
def n36 : An := .sq (.nd) (.sq (.nd) (.sq (.lp [] [] ⟨[(0, .i .u32), (3, .sl .n 300300)], [(300300, .ar 5 (.int .u8 .nil))]⟩ [.ti, .tl (.int .u8 .nil)] [(2, ⟨[(0, .i .u32), (3, .sl .n 300325)], [(300325, .ar 5 (.int .u8 .nil))]⟩)] [[.ti, .tl (.int .u8 .nil)]] (.nd)) (.nd)))
theorem e36 (k : Nat) (y : Tup h36) : exec (P := Tryd.prog) D (lk rowsL) [] k (bodyOf Tryd.f36) n36 (fnE Tryd.f36 A36 [] (inOf A36 (ofTup h36 y))) (fnSt [] (inOf A36 (ofTup h36 y))) (leafR D (fnE Tryd.f36 A36 [] (inOf A36 (ofTup h36 y))) Tryd.f36.results.toList (R36.map (·.h)) R36) = F36 k y := by kernel_rfl
noncomputable def C36 (k : Nat) : Con Tryd.prog := ⟨36, Tryd.f36, Tryd.func36, by kernel_rfl, by kernel_rfl, A36, h36, [], R36, fun y => F36 k y, fun y r h => con_ok good mixed (c := bodyOf Tryd.f36) Tryd.func36 (by kernel_rfl) n36 y ((e36 k y).trans h)⟩
noncomputable def F37 (k : Nat) (x1 : ByteArray) : Option ByteArray :=
(F36 k (IntKind.wrap .u32 (x1.size : Int))).bind fun y1 => 
grd (decide (y1.size + x1.size ≤ 9223372036854775807)) <|
some (y1 ++ x1)
def A37 : CTpl := ⟨[.s], []⟩
def h37 : List HTy := [.ts]
def R37 : List RTpl := [⟨.s, [], [.ts]⟩]
def n37 : An := .nd
theorem e37 (k : Nat) (y : Tup h37) : exec (P := Tryd.prog) D (lk rowsL) [C36 k] k (bodyOf Tryd.f37) n37 (fnE Tryd.f37 A37 [] (inOf A37 (ofTup h37 y))) (fnSt [] (inOf A37 (ofTup h37 y))) (leafR D (fnE Tryd.f37 A37 [] (inOf A37 (ofTup h37 y))) Tryd.f37.results.toList (R37.map (·.h)) R37) = F37 k y := by kernel_rfl
noncomputable def C37 (k : Nat) : Con Tryd.prog := ⟨37, Tryd.f37, Tryd.func37, by kernel_rfl, by kernel_rfl, A37, h37, [], R37, fun y => F37 k y, fun y r h => con_ok good mixed (c := bodyOf Tryd.f37) Tryd.func37 (by kernel_rfl) n37 y ((e37 k y).trans h)⟩
noncomputable def L15_18 (k : Nat) (x1 : (List (ByteArray × Bool × ByteArray))) (z46 : (ByteArray × Int)) : Option ((ByteArray × Int) ⊕ ByteArray) :=
cond (decide (z46.2 < (x1.length : Int))) (
(((ix x1 z46.2).bind fun a47 =>
cond a47.2.1 (
(ix x1 z46.2).bind fun a48 =>
(F37 k a48.1).bind fun y49 => 
grd (decide ((⟨#[1]⟩ : ByteArray).size + y49.size ≤ 9223372036854775807)) <|
grd (decide (z46.1.size + ((⟨#[1]⟩ : ByteArray) ++ y49).size ≤ 9223372036854775807)) <|
some (z46.1 ++ ((⟨#[1]⟩ : ByteArray) ++ y49))) (
(ix x1 z46.2).bind fun a50 =>
(F37 k a50.1).bind fun y51 => 
grd (decide ((⟨#[0]⟩ : ByteArray).size + y51.size ≤ 9223372036854775807)) <|
(ix x1 z46.2).bind fun a52 =>
(F37 k a52.2.2).bind fun y53 => 
grd (decide (((⟨#[0]⟩ : ByteArray) ++ y51).size + y53.size ≤ 9223372036854775807)) <|
grd (decide (z46.1.size + (((⟨#[0]⟩ : ByteArray) ++ y51) ++ y53).size ≤ 9223372036854775807)) <|
some (z46.1 ++ (((⟨#[0]⟩ : ByteArray) ++ y51) ++ y53))) : Option ByteArray)).bind fun y54 => 
some (.inl (y54, (IntKind.wrap .i64 (z46.2 + 1))))) (
some (.inr z46.1))
noncomputable def F15 (k : Nat) (x1 : (List (ByteArray × Bool × ByteArray))) : Option (ByteArray × Int) :=
(F12 k x1).bind fun y3 => 
cond (y3 != 0) (
some ((⟨#[]⟩ : ByteArray), y3)) (
(F36 k (IntKind.wrap .u32 (x1.length : Int))).bind fun y5 => 
(loopN (L15_18 k x1) k (y5, 0)).bind fun y55 => 
some (y55, 0))
def A15 : CTpl := ⟨[.fz .u (.str (.bool (.str .nil)))], []⟩
def h15 : List HTy := [.tl (.str (.bool (.str .nil)))]
def R15 : List RTpl := [⟨.tp [.s, .i .i64], [], [.ts, .ti]⟩]
def n15 : An := .sq (.nd) (.sq (.nd) (.sq (.nd) (.sq (.sq (.nd) (.lp [0] [] ⟨[(5, .s), (6, .i .i64)], []⟩ [.ts, .ti] [(2, ⟨[(5, .s)], []⟩)] [[.ts]] (.sq (.nd) (.jn [6] [] [(0, ⟨[(5, .s)], []⟩)] [[.ts]] (.sq (.nd) (.sq (.nd) (.mk [] [0, 0, 0, 6, 14, 30, 62, 126, 0, 0, 768, 1792, 3840, 8062, 16382, 32767, 65535]))) (.nd))))) (.nd))))
theorem e15 (k : Nat) (y : Tup h15) : exec (P := Tryd.prog) D (lk rowsL) [C12 k, C36 k, C37 k] k (bodyOf Tryd.f15) n15 (fnE Tryd.f15 A15 [] (inOf A15 (ofTup h15 y))) (fnSt [] (inOf A15 (ofTup h15 y))) (leafR D (fnE Tryd.f15 A15 [] (inOf A15 (ofTup h15 y))) Tryd.f15.results.toList (R15.map (·.h)) R15) = F15 k y := by kernel_rfl
noncomputable def C15 (k : Nat) : Con Tryd.prog := ⟨15, Tryd.f15, Tryd.func15, by kernel_rfl, by kernel_rfl, A15, h15, [], R15, fun y => F15 k y, fun y r h => con_ok good mixed (c := bodyOf Tryd.f15) Tryd.func15 (by kernel_rfl) n15 y ((e15 k y).trans h)⟩
noncomputable def F44 (k : Nat) (x1 : ByteArray) : Option (Int × Int) :=
some (((Go.Lib.decodeGo x1).1 : Int), ((Go.Lib.decodeGo x1).2 : Int))
def A44 : CTpl := ⟨[.s], []⟩
def h44 : List HTy := [.ts]
def R44 : List RTpl := [⟨.tp [.i .i32, .i .i64], [], [.ti, .ti]⟩]
def n44 : An := .nd
noncomputable def C44 (k : Nat) (hm : Mo.m = false) : Con Tryd.prog := ⟨44, Tryd.f44, Tryd.func44, by kernel_rfl, by kernel_rfl, A44, h44, [], R44, fun y => F44 k y, fun y r h => by
  have h2 : some (((Go.Lib.decodeGo y).1 : Int), ((Go.Lib.decodeGo y).2 : Int)) = some r := h
  cases h2
  exact CTx.lib (vs := [.string y]) rfl (fun _ _ _ => relV_two) fun w hw => (Tryd.utf8_DecodeRuneInString y w (tabs_of (by kernel_rfl) (by kernel_rfl) hw)).mono fun e w2 g => ⟨g.1, g.2, fun g2 => by rw [hm] at g2; cases g2⟩⟩
noncomputable def L27_8 (k : Nat) (x1 : ByteArray) (z18 : (Int × ByteArray × Nat)) : Option ((Int × ByteArray × Nat) ⊕ ((ByteArray × Nat) ⊕ (Int × ByteArray × Nat))) :=
cond (decide (z18.2.2 < z18.2.1.size)) (
((cond (decide (12 < (IntKind.wrap .i64 (z18.1 + 1)))) (
some true) (
cond (decide (((Utf8.decode z18.2.1 z18.2.2).1 : Int) < 33)) (
some true) (
cond (decide (127 ≤ ((Utf8.decode z18.2.1 z18.2.2).1 : Int))) (
some (decide (((Utf8.decode z18.2.1 z18.2.2).1 : Int) ≤ 160))) (
some false))) : Option Bool)).bind fun y19 => 
cond y19 (
some (.inr (.inl (z18.2.1, (z18.2.2 + (Utf8.decode z18.2.1 z18.2.2).2))))) (
grd (bnds (x1.size : Int) (z18.2.2 : Int) (x1.size : Int)) <|
(F44 k (x1.extract ((z18.2.2 : Int).toNat) ((x1.size : Int).toNat))).bind fun y20 => 
((cond (((Utf8.decode z18.2.1 z18.2.2).1 : Int) == 65533) (
some (y20.2 == 1)) (
some false) : Option Bool)).bind fun y21 => 
cond y21 (
some (.inr (.inl (z18.2.1, (z18.2.2 + (Utf8.decode z18.2.1 z18.2.2).2))))) (
some (.inl ((IntKind.wrap .i64 (z18.1 + 1)), z18.2.1, (z18.2.2 + (Utf8.decode z18.2.1 z18.2.2).2)))))) (
some (.inr (.inr (z18.1, z18.2.1, z18.2.2))))
noncomputable def F27 (k : Nat) (x1 : ByteArray) : Option Bool :=
(loopN (L27_8 k x1) k (0, x1, 0)).bind fun y22 => 
sel (fun y23 =>
some false) (fun y24 =>
some (decide (0 < y24.1))) y22
def A27 : CTpl := ⟨[.s], []⟩
def h27 : List HTy := [.ts]
def R27 : List RTpl := [⟨.b, [], [.tb]⟩]
def n27 : An := .sq (.nd) (.sq (.nd) (.sq (.sq (.nd) (.lp [0, 9] [] ⟨[(3, .i .i64)], [(9, .si)]⟩ [.ti, .ts, .tn] [(1, ⟨[(2, .lb false)], [(9, .si)]⟩), (2, ⟨[(3, .i .i64)], [(9, .si)]⟩)] [[.ts, .tn], [.ti, .ts, .tn]] (.sq (.nd) (.sq (.nd) (.sq (.nd) (.sq (.nd) (.sq (.jn [3, 4, 5] [9] [(0, ⟨[(29, .b)], []⟩)] [[.tb]] (.nd) (.nd)) (.sq (.nd) (.jn [3] [9] [(0, ⟨[(42, .b)], []⟩)] [[.tb]] (.nd) (.nd)))))))))) (.nd)))
theorem e27 (k : Nat) (hm : Mo.m = false) (y : Tup h27) : exec (P := Tryd.prog) D (lk rowsL) [C44 k hm] k (bodyOf Tryd.f27) n27 (fnE Tryd.f27 A27 [] (inOf A27 (ofTup h27 y))) (fnSt [] (inOf A27 (ofTup h27 y))) (leafR D (fnE Tryd.f27 A27 [] (inOf A27 (ofTup h27 y))) Tryd.f27.results.toList (R27.map (·.h)) R27) = F27 k y := by kernel_rfl
noncomputable def C27 (k : Nat) (hm : Mo.m = false) : Con Tryd.prog := ⟨27, Tryd.f27, Tryd.func27, by kernel_rfl, by kernel_rfl, A27, h27, [], R27, fun y => F27 k y, fun y r h => con_ok good mixed (c := bodyOf Tryd.f27) Tryd.func27 (by kernel_rfl) n27 y ((e27 k hm y).trans h)⟩
noncomputable def L57_8 (k : Nat) (z3 : (ByteArray × Nat × (List Int))) : Option ((ByteArray × Nat × (List Int)) ⊕ (ByteArray × Nat × (List Int))) :=
cond (decide (z3.2.1 < z3.1.size)) (
grd (decide ((z3.2.2.length + [((Utf8.decode z3.1 z3.2.1).1 : Int)].length) * 4 ≤ 140737488355328)) <|
some (.inl (z3.1, (z3.2.1 + (Utf8.decode z3.1 z3.2.1).2), (z3.2.2 ++ [((Utf8.decode z3.1 z3.2.1).1 : Int)])))) (
some (.inr (z3.1, z3.2.1, z3.2.2)))
noncomputable def F57 (k : Nat) (x1 : ByteArray) : Option (List Int) :=
(loopN (L57_8 k) k (x1, 0, ([] : List Int))).bind fun y4 => 
some y4.2.2
def A57 : CTpl := ⟨[.s], []⟩
def h57 : List HTy := [.ts]
def R57 : List RTpl := [⟨.sl .u 500000, [(500000, .ar 21 (.int .i32 .nil))], [.tl (.int .i32 .nil)]⟩]
def n57 : An := .sq (.nd) (.sq (.nd) (.sq (.sq (.nd) (.lp [7] [] ⟨[(3, .sl .n 300400)], [(7, .si), (300400, .ar 21 (.int .i32 .nil))]⟩ [.ts, .tn, .tl (.int .i32 .nil)] [(2, ⟨[(3, .sl .n 300425)], [(7, .si), (300425, .ar 21 (.int .i32 .nil))]⟩)] [[.ts, .tn, .tl (.int .i32 .nil)]] (.nd))) (.nd)))
theorem e57 (k : Nat) (y : Tup h57) : exec (P := Tryd.prog) D (lk rowsL) [] k (bodyOf Tryd.f57) n57 (fnE Tryd.f57 A57 [] (inOf A57 (ofTup h57 y))) (fnSt [] (inOf A57 (ofTup h57 y))) (leafR D (fnE Tryd.f57 A57 [] (inOf A57 (ofTup h57 y))) Tryd.f57.results.toList (R57.map (·.h)) R57) = F57 k y := by kernel_rfl
noncomputable def C57 (k : Nat) : Con Tryd.prog := ⟨57, Tryd.f57, Tryd.func57, by kernel_rfl, by kernel_rfl, A57, h57, [], R57, fun y => F57 k y, fun y r h => con_ok good mixed (c := bodyOf Tryd.f57) Tryd.func57 (by kernel_rfl) n57 y ((e57 k y).trans h)⟩
noncomputable def F78 (k : Nat) (x1 : Int) : Option Bool :=
some (x1 != x1)
def A78 : CTpl := ⟨[.i .i32], []⟩
def h78 : List HTy := [.ti]
def R78 : List RTpl := [⟨.b, [], [.tb]⟩]
def n78 : An := .nd
theorem e78 (k : Nat) (y : Tup h78) : exec (P := Tryd.prog) D (lk rowsL) [] k (bodyOf Tryd.f78) n78 (fnE Tryd.f78 A78 [] (inOf A78 (ofTup h78 y))) (fnSt [] (inOf A78 (ofTup h78 y))) (leafR D (fnE Tryd.f78 A78 [] (inOf A78 (ofTup h78 y))) Tryd.f78.results.toList (R78.map (·.h)) R78) = F78 k y := by kernel_rfl
noncomputable def C78 (k : Nat) : Con Tryd.prog := ⟨78, Tryd.f78, Tryd.func78, by kernel_rfl, by kernel_rfl, A78, h78, [], R78, fun y => F78 k y, fun y r h => con_ok good mixed (c := bodyOf Tryd.f78) Tryd.func78 (by kernel_rfl) n78 y ((e78 k y).trans h)⟩
noncomputable def F65 (k : Nat) (x1 : Int) (x2 : Int) : Option Int :=
(F78 k x1).bind fun y2 => 
(F78 k x2).bind fun y4 => 
cond y2 (
cond y4 (
some 0) (
some (-1))) (
cond y4 (
some 1) (
cond (decide (x1 < x2)) (
some (-1)) (
cond (decide (x2 < x1)) (
some 1) (
some 0))))
def A65 : CTpl := ⟨[.i .i32, .i .i32], []⟩
def h65 : List HTy := [.ti, .ti]
def R65 : List RTpl := [⟨.i .i64, [], [.ti]⟩]
def n65 : An := .nd
theorem e65 (k : Nat) (y : Tup h65) : exec (P := Tryd.prog) D (lk rowsL) [C78 k] k (bodyOf Tryd.f65) n65 (fnE Tryd.f65 A65 [] (inOf A65 (ofTup h65 y))) (fnSt [] (inOf A65 (ofTup h65 y))) (leafR D (fnE Tryd.f65 A65 [] (inOf A65 (ofTup h65 y))) Tryd.f65.results.toList (R65.map (·.h)) R65) = F65 k y.1 y.2 := by kernel_rfl
noncomputable def C65 (k : Nat) : Con Tryd.prog := ⟨65, Tryd.f65, Tryd.func65, by kernel_rfl, by kernel_rfl, A65, h65, [], R65, fun y => F65 k y.1 y.2, fun y r h => con_ok good mixed (c := bodyOf Tryd.f65) Tryd.func65 (by kernel_rfl) n65 y ((e65 k y).trans h)⟩
noncomputable def L58_6 (k : Nat) (x1 : (List Int)) (x2 : (List Int)) (z27 : Int) : Option (Int ⊕ (Int ⊕ Unit)) :=
cond (decide (z27 < (x1.length : Int))) (
(ix x1 z27).bind fun a28 =>
cond (decide ((x2.length : Int) ≤ z27)) (
some (.inr (.inl 1))) (
(ix x2 z27).bind fun a29 =>
(x2[z27.toNat]?).bind fun a30 =>
(F65 k a28 a30).bind fun y31 => 
cond (y31 != 0) (
some (.inr (.inl y31))) (
some (.inl (IntKind.wrap .i64 (z27 + 1)))))) (
some (.inr (.inr ())))
noncomputable def F58 (k : Nat) (x1 : (List Int)) (x2 : (List Int)) : Option Int :=
(loopN (L58_6 k x1 x2) k 0).bind fun y32 => 
sel (fun y33 =>
some y33) (fun y34 =>
cond (decide ((x1.length : Int) < (x2.length : Int))) (
some (-1)) (
some 0)) y32
def A58 : CTpl := ⟨[.fz .u (.int .i32 .nil), .sl .u 1000000], [(1000000, .ar 21 (.int .i32 .nil))]⟩
def h58 : List HTy := [.tl (.int .i32 .nil), .tl (.int .i32 .nil)]
def R58 : List RTpl := [⟨.i .i64, [], [.ti]⟩]
def n58 : An := .sq (.nd) (.sq (.sq (.nd) (.lp [0, 1, 9, 10] [] ⟨[(11, .i .i64)], []⟩ [.ti] [(1, ⟨[(4, .i .i64)], []⟩), (2, ⟨[], []⟩)] [[.ti], []] (.nd))) (.nd))
theorem e58 (k : Nat) (y : Tup h58) : exec (P := Tryd.prog) D (lk rowsL) [C65 k] k (bodyOf Tryd.f58) n58 (fnE Tryd.f58 A58 [1000000] (inOf A58 (ofTup h58 y))) (fnSt [1000000] (inOf A58 (ofTup h58 y))) (leafR D (fnE Tryd.f58 A58 [1000000] (inOf A58 (ofTup h58 y))) Tryd.f58.results.toList (R58.map (·.h)) R58) = F58 k y.1 y.2 := by kernel_rfl
noncomputable def C58 (k : Nat) : Con Tryd.prog := ⟨58, Tryd.f58, Tryd.func58, by kernel_rfl, by kernel_rfl, A58, h58, [1000000], R58, fun y => F58 k y.1 y.2, fun y r h => con_ok good mixed (c := bodyOf Tryd.f58) Tryd.func58 (by kernel_rfl) n58 y ((e58 k y).trans h)⟩
noncomputable def L58_1_6 (k : Nat) (x1 : (List Int)) (x2 : (List Int)) (z22 : Int) : Option (Int ⊕ (Int ⊕ Unit)) :=
cond (decide (z22 < (x1.length : Int))) (
(ix x1 z22).bind fun a23 =>
cond (decide ((x2.length : Int) ≤ z22)) (
some (.inr (.inl 1))) (
(ix x2 z22).bind fun a24 =>
(F65 k a23 a24).bind fun y25 => 
cond (y25 != 0) (
some (.inr (.inl y25))) (
some (.inl (IntKind.wrap .i64 (z22 + 1)))))) (
some (.inr (.inr ())))
noncomputable def F58_1 (k : Nat) (x1 : (List Int)) (x2 : (List Int)) : Option Int :=
(loopN (L58_1_6 k x1 x2) k 0).bind fun y26 => 
sel (fun y27 =>
some y27) (fun y28 =>
cond (decide ((x1.length : Int) < (x2.length : Int))) (
some (-1)) (
some 0)) y26
def A58_1 : CTpl := ⟨[.fz .u (.int .i32 .nil), .fz .u (.int .i32 .nil)], []⟩
def h58_1 : List HTy := [.tl (.int .i32 .nil), .tl (.int .i32 .nil)]
def R58_1 : List RTpl := [⟨.i .i64, [], [.ti]⟩]
def n58_1 : An := .sq (.nd) (.sq (.sq (.nd) (.lp [0, 1, 9, 10] [] ⟨[(11, .i .i64)], []⟩ [.ti] [(1, ⟨[(4, .i .i64)], []⟩), (2, ⟨[], []⟩)] [[.ti], []] (.nd))) (.nd))
theorem e58_1 (k : Nat) (y : Tup h58_1) : exec (P := Tryd.prog) D (lk rowsL) [C65 k] k (bodyOf Tryd.f58) n58_1 (fnE Tryd.f58 A58_1 [] (inOf A58_1 (ofTup h58_1 y))) (fnSt [] (inOf A58_1 (ofTup h58_1 y))) (leafR D (fnE Tryd.f58 A58_1 [] (inOf A58_1 (ofTup h58_1 y))) Tryd.f58.results.toList (R58_1.map (·.h)) R58_1) = F58_1 k y.1 y.2 := by kernel_rfl
noncomputable def C58_1 (k : Nat) : Con Tryd.prog := ⟨58, Tryd.f58, Tryd.func58, by kernel_rfl, by kernel_rfl, A58_1, h58_1, [], R58_1, fun y => F58_1 k y.1 y.2, fun y r h => con_ok good mixed (c := bodyOf Tryd.f58) Tryd.func58 (by kernel_rfl) n58_1 y ((e58_1 k y).trans h)⟩
noncomputable def F45 (k : Nat) (x1 : ByteArray) (x2 : ByteArray) : Option Int :=
(F57 k x1).bind fun y3 => 
(F57 k x2).bind fun y4 => 
(F58_1 k y3 y4).bind fun y5 => 
some y5
def A45 : CTpl := ⟨[.s, .s], []⟩
def h45 : List HTy := [.ts, .ts]
def R45 : List RTpl := [⟨.i .i64, [], [.ti]⟩]
def n45 : An := .sq (.nd) (.sq (.nd) (.sq (.fr [(2, 400800), (2, 401000)]) (.nd)))
theorem e45 (k : Nat) (y : Tup h45) : exec (P := Tryd.prog) D (lk rowsL) [C57 k, C58_1 k] k (bodyOf Tryd.f45) n45 (fnE Tryd.f45 A45 [] (inOf A45 (ofTup h45 y))) (fnSt [] (inOf A45 (ofTup h45 y))) (leafR D (fnE Tryd.f45 A45 [] (inOf A45 (ofTup h45 y))) Tryd.f45.results.toList (R45.map (·.h)) R45) = F45 k y.1 y.2 := by kernel_rfl
noncomputable def C45 (k : Nat) : Con Tryd.prog := ⟨45, Tryd.f45, Tryd.func45, by kernel_rfl, by kernel_rfl, A45, h45, [], R45, fun y => F45 k y.1 y.2, fun y r h => con_ok good mixed (c := bodyOf Tryd.f45) Tryd.func45 (by kernel_rfl) n45 y ((e45 k y).trans h)⟩
noncomputable def F28 (k : Nat) (x1 : ByteArray) (x2 : ByteArray) : Option Bool :=
(F45 k x1 x2).bind fun y2 => 
cond (decide (y2 < 0)) (
some true) (
cond (y2 == 0) (
some (Op.bytesLess x1.toList x2.toList)) (
some false))
def A28 : CTpl := ⟨[.s, .s], []⟩
def h28 : List HTy := [.ts, .ts]
def R28 : List RTpl := [⟨.b, [], [.tb]⟩]
def n28 : An := .nd
theorem e28 (k : Nat) (y : Tup h28) : exec (P := Tryd.prog) D (lk rowsL) [C45 k] k (bodyOf Tryd.f28) n28 (fnE Tryd.f28 A28 [] (inOf A28 (ofTup h28 y))) (fnSt [] (inOf A28 (ofTup h28 y))) (leafR D (fnE Tryd.f28 A28 [] (inOf A28 (ofTup h28 y))) Tryd.f28.results.toList (R28.map (·.h)) R28) = F28 k y.1 y.2 := by kernel_rfl
noncomputable def C28 (k : Nat) : Con Tryd.prog := ⟨28, Tryd.f28, Tryd.func28, by kernel_rfl, by kernel_rfl, A28, h28, [], R28, fun y => F28 k y.1 y.2, fun y r h => con_ok good mixed (c := bodyOf Tryd.f28) Tryd.func28 (by kernel_rfl) n28 y ((e28 k y).trans h)⟩
noncomputable def L11_14 (k : Nat) (x1 : (List (ByteArray × Bool × ByteArray))) (z40 : Int) : Option (Int ⊕ (Int ⊕ Unit)) :=
cond (decide (z40 < (x1.length : Int))) (
(ix x1 z40).bind fun a41 =>
(F27 k a41.1).bind fun y42 => 
cond (!y42) (
some (.inr (.inl 10))) (
cond (decide (48 < (a41.2.2.size : Int))) (
some (.inr (.inl 11))) (
((cond a41.2.1 (
cond (!(a41.2.2.toList == (⟨#[]⟩ : ByteArray).toList)) (
some true) (
cond (decide (0 < z40)) (
(ix x1 (IntKind.wrap .i64 (z40 - 1))).bind fun a43 =>
(F28 k a43.1 a41.1).bind fun y44 => 
some (!y44)) (
some false))) (
cond (decide (0 < z40)) (
(ix x1 (IntKind.wrap .i64 (z40 - 1))).bind fun a45 =>
(F28 k a45.1 a41.1).bind fun y46 => 
some (!y46)) (
some false)) : Option Bool)).bind fun y47 => 
cond y47 (
some (.inr (.inl 2))) (
some (.inl (IntKind.wrap .i64 (z40 + 1))))))) (
some (.inr (.inr ())))
noncomputable def F11 (k : Nat) (x1 : (List (ByteArray × Bool × ByteArray))) : Option Int :=
((cond (decide ((x1.length : Int) < 1)) (
some true) (
some (decide (8 < (x1.length : Int)))) : Option Bool)).bind fun y2 => 
cond y2 (
some 12) (
(loopN (L11_14 k x1) k 0).bind fun y48 => 
sel (fun y49 =>
some y49) (fun y50 =>
some 0) y48)
def A11 : CTpl := ⟨[.fz .u (.str (.bool (.str .nil)))], []⟩
def h11 : List HTy := [.tl (.str (.bool (.str .nil)))]
def R11 : List RTpl := [⟨.i .i64, [], [.ti]⟩]
def n11 : An := .sq (.nd) (.sq (.jn [0] [] [(0, ⟨[(12, .b)], []⟩)] [[.tb]] (.nd) (.nd)) (.sq (.sq (.nd) (.lp [0, 13, 14] [] ⟨[(15, .i .i64)], []⟩ [.ti] [(1, ⟨[(2, .i .i64)], []⟩), (2, ⟨[], []⟩)] [[.ti], []] (.sq (.nd) (.sq (.nd) (.sq (.sq (.nd) (.sq (.nd) (.sq (.nd) (.sq (.nd) (.sq (.nd) (.jn [15] [] [(0, ⟨[(30, .b)], []⟩)] [[.tb]] (.mk [] [0, 1, 3, 7, 15, 31, 63, 127, 255, 511, 1023, 2047, 2047, 6143, 16383, 32767, 65535, 2047, 133119, 524287, 1048575, 2097151, 4194303, 8388607]) (.nd))))))) (.nd)))))) (.nd)))
theorem e11 (k : Nat) (hm : Mo.m = false) (y : Tup h11) : exec (P := Tryd.prog) D (lk rowsL) [C27 k hm, C28 k] k (bodyOf Tryd.f11) n11 (fnE Tryd.f11 A11 [] (inOf A11 (ofTup h11 y))) (fnSt [] (inOf A11 (ofTup h11 y))) (leafR D (fnE Tryd.f11 A11 [] (inOf A11 (ofTup h11 y))) Tryd.f11.results.toList (R11.map (·.h)) R11) = F11 k y := by kernel_rfl
noncomputable def C11 (k : Nat) (hm : Mo.m = false) : Con Tryd.prog := ⟨11, Tryd.f11, Tryd.func11, by kernel_rfl, by kernel_rfl, A11, h11, [], R11, fun y => F11 k y, fun y r h => con_ok good mixed (c := bodyOf Tryd.f11) Tryd.func11 (by kernel_rfl) n11 y ((e11 k hm y).trans h)⟩
noncomputable def L33_6 (k : Nat) (z3 : (Int × (List Int))) : Option ((Int × (List Int)) ⊕ (Int × (List Int))) :=
cond (decide (128 ≤ z3.1)) (
grd (decide ((z3.2.length + [(bits .or .u8 (IntKind.wrap .u8 z3.1) 128)].length) * 1 ≤ 140737488355328)) <|
some (.inl ((z3.1.fdiv (2 ^ 7)), (z3.2 ++ [(bits .or .u8 (IntKind.wrap .u8 z3.1) 128)])))) (
some (.inr (z3.1, z3.2)))
noncomputable def F33 (k : Nat) (x1 : Int) : Option ByteArray :=
(loopN (L33_6 k) k (x1, ([] : List Int))).bind fun y4 => 
grd (decide ((y4.2.length + [(IntKind.wrap .u8 y4.1)].length) * 1 ≤ 140737488355328)) <|
some (strOfNums (y4.2 ++ [(IntKind.wrap .u8 y4.1)]))
def A33 : CTpl := ⟨[.i .u32], []⟩
def h33 : List HTy := [.ti]
def R33 : List RTpl := [⟨.s, [], [.ts]⟩]
def n33 : An := .sq (.nd) (.sq (.nd) (.sq (.lp [] [] ⟨[(0, .i .u32), (3, .sl .n 300300)], [(300300, .ar 5 (.int .u8 .nil))]⟩ [.ti, .tl (.int .u8 .nil)] [(2, ⟨[(0, .i .u32), (3, .sl .n 300325)], [(300325, .ar 5 (.int .u8 .nil))]⟩)] [[.ti, .tl (.int .u8 .nil)]] (.nd)) (.nd)))
theorem e33 (k : Nat) (y : Tup h33) : exec (P := Tryd.prog) D (lk rowsL) [] k (bodyOf Tryd.f33) n33 (fnE Tryd.f33 A33 [] (inOf A33 (ofTup h33 y))) (fnSt [] (inOf A33 (ofTup h33 y))) (leafR D (fnE Tryd.f33 A33 [] (inOf A33 (ofTup h33 y))) Tryd.f33.results.toList (R33.map (·.h)) R33) = F33 k y := by kernel_rfl
noncomputable def C33 (k : Nat) : Con Tryd.prog := ⟨33, Tryd.f33, Tryd.func33, by kernel_rfl, by kernel_rfl, A33, h33, [], R33, fun y => F33 k y, fun y r h => con_ok good mixed (c := bodyOf Tryd.f33) Tryd.func33 (by kernel_rfl) n33 y ((e33 k y).trans h)⟩
noncomputable def F49 (k : Nat) (x1 : (List Int)) : Option Unit :=
some ()
def A49 : CTpl := ⟨[.pt 1000000 0], [(1000000, .bx 50 [.sp 1000000, .sl .u 1000001]), (1000001, .ar 5 (.int .u8 .nil))]⟩
def h49 : List HTy := [.tl (.int .u8 .nil)]
def R49 : List RTpl := [⟨.tp [], [], []⟩]
def n49 : An := .nd
noncomputable def C49 (k : Nat) : Con Tryd.prog := ⟨49, Tryd.f49, Tryd.func49, by kernel_rfl, by kernel_rfl, A49, h49, [1000000, 1000001], R49, fun y => F49 k y, fun y r h => by
  have h2 : some () = some r := h
  cases h2
  exact CTx.copyCheck Tryd.bld_fresh Tryd.bld_used _ _⟩
noncomputable def F32 (k : Nat) (x1 : ByteArray) (x2 : (List Int)) : Option (Int × (List Int)) :=
(F49 k x2).bind fun y2 => 
grd (decide (x2.length + x1.size ≤ 140737488355328)) <|
some ((x1.size : Int), (x2 ++ (strNums x1)))
def A32 : CTpl := ⟨[.pt 1000000 0, .s], [(1000000, .bx 50 [.sp 1000000, .sl .u 1000001]), (1000001, .ar 5 (.int .u8 .nil))]⟩
def h32 : List HTy := [.ts, .tl (.int .u8 .nil)]
def R32 : List RTpl := [⟨.tp [.i .i64, .c (.nilIface)], [(1000000, .bx 50 [.sp 1000000, .sl .u 500000]), (1000001, .gone), (500000, .ar 5 (.int .u8 .nil))], [.ti, .tl (.int .u8 .nil)]⟩]
def n32 : An := .nd
theorem e32 (k : Nat) (y : Tup h32) : exec (P := Tryd.prog) D (lk rowsL) [C49 k] k (bodyOf Tryd.f32) n32 (fnE Tryd.f32 A32 [] (inOf A32 (ofTup h32 y))) (fnSt [] (inOf A32 (ofTup h32 y))) (leafR D (fnE Tryd.f32 A32 [] (inOf A32 (ofTup h32 y))) Tryd.f32.results.toList (R32.map (·.h)) R32) = F32 k y.1 y.2 := by kernel_rfl
noncomputable def C32 (k : Nat) : Con Tryd.prog := ⟨32, Tryd.f32, Tryd.func32, by kernel_rfl, by kernel_rfl, A32, h32, [], R32, fun y => F32 k y.1 y.2, fun y r h => con_ok good mixed (c := bodyOf Tryd.f32) Tryd.func32 (by kernel_rfl) n32 y ((e32 k y).trans h)⟩
noncomputable def F34 (k : Nat) (x1 : ByteArray) : Option ByteArray :=
(F33 k (IntKind.wrap .u32 (x1.size : Int))).bind fun y1 => 
grd (decide (y1.size + x1.size ≤ 9223372036854775807)) <|
some (y1 ++ x1)
def A34 : CTpl := ⟨[.s], []⟩
def h34 : List HTy := [.ts]
def R34 : List RTpl := [⟨.s, [], [.ts]⟩]
def n34 : An := .nd
theorem e34 (k : Nat) (y : Tup h34) : exec (P := Tryd.prog) D (lk rowsL) [C33 k] k (bodyOf Tryd.f34) n34 (fnE Tryd.f34 A34 [] (inOf A34 (ofTup h34 y))) (fnSt [] (inOf A34 (ofTup h34 y))) (leafR D (fnE Tryd.f34 A34 [] (inOf A34 (ofTup h34 y))) Tryd.f34.results.toList (R34.map (·.h)) R34) = F34 k y := by kernel_rfl
noncomputable def C34 (k : Nat) : Con Tryd.prog := ⟨34, Tryd.f34, Tryd.func34, by kernel_rfl, by kernel_rfl, A34, h34, [], R34, fun y => F34 k y, fun y r h => con_ok good mixed (c := bodyOf Tryd.f34) Tryd.func34 (by kernel_rfl) n34 y ((e34 k y).trans h)⟩
noncomputable def F35 (k : Nat) (x1 : (List Int)) : Option (ByteArray × (List Int)) :=
grd (byteB x1) (some (strOfNums x1, x1))
def A35 : CTpl := ⟨[.pt 1000000 0], [(1000000, .bx 50 [.sp 1000000, .sl .u 1000001]), (1000001, .ar 5 (.int .u8 .nil))]⟩
def h35 : List HTy := [.tl (.int .u8 .nil)]
def R35 : List RTpl := [⟨.s, [(1000001, .ar 2000005 (.int .u8 .nil))], [.ts, .tl (.int .u8 .nil)]⟩]
def n35 : An := .nd
noncomputable def C35 (k : Nat) : Con Tryd.prog := ⟨35, Tryd.f35, Tryd.func35, by kernel_rfl, by kernel_rfl, A35, h35, [1000000], R35, fun y => F35 k y, fun y r h => by
  have h2 : grd (byteB y) (some (strOfNums y, y)) = some r := h
  obtain ⟨hb, h3⟩ := grd_out h2
  cases h3
  exact CTx.builderStr (ρ := Tryd.lays169_ren) Tryd.lays169 Tryd.Builder_Extra_169 (.inl rfl) (by decide) hb⟩
noncomputable def L14_20 (k : Nat) (x1 : (List (ByteArray × Bool × ByteArray))) (z49 : (Int × (List Int))) : Option ((Int × (List Int)) ⊕ (List Int)) :=
cond (decide (z49.1 < (x1.length : Int))) (
(((ix x1 z49.1).bind fun a50 =>
cond a50.2.1 (
(F34 k a50.1).bind fun y51 => 
grd (decide ((⟨#[1]⟩ : ByteArray).size + y51.size ≤ 9223372036854775807)) <|
(F32 k ((⟨#[1]⟩ : ByteArray) ++ y51) z49.2).bind fun y52 => 
some y52.2) (
(F34 k a50.1).bind fun y53 => 
grd (decide ((⟨#[0]⟩ : ByteArray).size + y53.size ≤ 9223372036854775807)) <|
(F34 k a50.2.2).bind fun y54 => 
grd (decide (((⟨#[0]⟩ : ByteArray) ++ y53).size + y54.size ≤ 9223372036854775807)) <|
(F32 k (((⟨#[0]⟩ : ByteArray) ++ y53) ++ y54) z49.2).bind fun y55 => 
some y55.2) : Option (List Int))).bind fun y56 => 
some (.inl ((IntKind.wrap .i64 (z49.1 + 1)), y56))) (
some (.inr z49.2))
noncomputable def F14 (k : Nat) (x1 : (List (ByteArray × Bool × ByteArray))) : Option (ByteArray × Int) :=
(F11 k x1).bind fun y3 => 
cond (y3 != 0) (
some ((⟨#[]⟩ : ByteArray), y3)) (
(F33 k (IntKind.wrap .u32 (x1.length : Int))).bind fun y6 => 
(F32 k y6 ([] : List Int)).bind fun y7 => 
(loopN (L14_20 k x1) k (0, y7.2)).bind fun y57 => 
(F35 k y57).bind fun y58 => 
some (y58.1, 0))
def A14 : CTpl := ⟨[.fz .u (.str (.bool (.str .nil)))], []⟩
def h14 : List HTy := [.tl (.str (.bool (.str .nil)))]
def R14 : List RTpl := [⟨.tp [.s, .i .i64], [], [.ts, .ti]⟩]
def n14 : An := .sq (.nd) (.sq (.nd) (.sq (.nd) (.sq (.nd) (.sq (.sq (.nd) (.lp [5, 18, 19] [] ⟨[(20, .i .i64)], [(5, .bx 50 [.sp 5, .sl .u 301000]), (301000, .ar 5 (.int .u8 .nil))]⟩ [.ti, .tl (.int .u8 .nil)] [(2, ⟨[], [(5, .bx 50 [.sp 5, .sl .u 301025]), (301025, .ar 5 (.int .u8 .nil))]⟩)] [[.tl (.int .u8 .nil)]] (.sq (.nd) (.sq (.nd) (.jn [20] [] [(0, ⟨[], [(5, .bx 50 [.sp 5, .sl .u 301350]), (301350, .ar 5 (.int .u8 .nil))]⟩)] [[.tl (.int .u8 .nil)]] (.sq (.nd) (.sq (.nd) (.sq (.nd) (.mk [] [0, 1, 3, 7, 0, 16, 55, 127, 255])))) (.nd)))))) (.nd)))))
theorem e14 (k : Nat) (hm : Mo.m = false) (y : Tup h14) : exec (P := Tryd.prog) D (lk rowsL) [C11 k hm, C33 k, C32 k, C34 k, C35 k] k (bodyOf Tryd.f14) n14 (fnE Tryd.f14 A14 [] (inOf A14 (ofTup h14 y))) (fnSt [] (inOf A14 (ofTup h14 y))) (leafR D (fnE Tryd.f14 A14 [] (inOf A14 (ofTup h14 y))) Tryd.f14.results.toList (R14.map (·.h)) R14) = F14 k y := by kernel_rfl
noncomputable def C14 (k : Nat) (hm : Mo.m = false) : Con Tryd.prog := ⟨14, Tryd.f14, Tryd.func14, by kernel_rfl, by kernel_rfl, A14, h14, [], R14, fun y => F14 k y, fun y r h => con_ok good mixed (c := bodyOf Tryd.f14) Tryd.func14 (by kernel_rfl) n14 y ((e14 k hm y).trans h)⟩
noncomputable def F10 (k : Nat) : Option Bool :=
(F14 k [((⟨#[97]⟩ : ByteArray), false, (⟨#[98]⟩ : ByteArray))]).bind fun y2 => 
cond (y2.2 == 0) (
cond (y2.1.toList == (⟨#[1, 0, 1, 97, 1, 98]⟩ : ByteArray).toList) (
(F11 k ([] : List (ByteArray × Bool × ByteArray))).bind fun y3 => 
some (y3 == 12)) (
some false)) (
some false)
def A10 : CTpl := ⟨[], []⟩
def h10 : List HTy := []
def R10 : List RTpl := [⟨.b, [], [.tb]⟩]
def n10 : An := .sq (.nd) (.sq (.fr [(2, 5)]) (.nd))
theorem e10 (k : Nat) (hm : Mo.m = false) (y : Tup h10) : exec (P := Tryd.prog) D (lk rowsL) [C14 k hm, C11 k hm] k (bodyOf Tryd.f10) n10 (fnE Tryd.f10 A10 [] (inOf A10 (ofTup h10 y))) (fnSt [] (inOf A10 (ofTup h10 y))) (leafR D (fnE Tryd.f10 A10 [] (inOf A10 (ofTup h10 y))) Tryd.f10.results.toList (R10.map (·.h)) R10) = F10 k := by kernel_rfl
noncomputable def C10 (k : Nat) (hm : Mo.m = false) : Con Tryd.prog := ⟨10, Tryd.f10, Tryd.func10, by kernel_rfl, by kernel_rfl, A10, h10, [], R10, fun y => F10 k, fun y r h => con_ok good mixed (c := bodyOf Tryd.f10) Tryd.func10 (by kernel_rfl) n10 y ((e10 k hm y).trans h)⟩
noncomputable def F20 (k : Nat) (x1 : Int) (x2 : Int) : Option Int :=
grd (x2 != 0) <|
((cond (decide ((x1.tmod x2) < 0)) (
some (IntKind.wrap .i64 ((x1.tmod x2) + x2))) (
some (x1.tmod x2)) : Option Int)).bind fun y1 => 
some y1
def A20 : CTpl := ⟨[.i .i64, .i .i64], []⟩
def h20 : List HTy := [.ti, .ti]
def R20 : List RTpl := [⟨.i .i64, [], [.ti]⟩]
def n20 : An := .sq (.nd) (.sq (.nd) (.jn [] [] [(0, ⟨[(0, .i .i64)], []⟩)] [[.ti]] (.nd) (.nd)))
theorem e20 (k : Nat) (y : Tup h20) : exec (P := Tryd.prog) D (lk rowsL) [] k (bodyOf Tryd.f20) n20 (fnE Tryd.f20 A20 [] (inOf A20 (ofTup h20 y))) (fnSt [] (inOf A20 (ofTup h20 y))) (leafR D (fnE Tryd.f20 A20 [] (inOf A20 (ofTup h20 y))) Tryd.f20.results.toList (R20.map (·.h)) R20) = F20 k y.1 y.2 := by kernel_rfl
noncomputable def C20 (k : Nat) : Con Tryd.prog := ⟨20, Tryd.f20, Tryd.func20, by kernel_rfl, by kernel_rfl, A20, h20, [], R20, fun y => F20 k y.1 y.2, fun y r h => con_ok good mixed (c := bodyOf Tryd.f20) Tryd.func20 (by kernel_rfl) n20 y ((e20 k y).trans h)⟩
noncomputable def L38_16 (k : Nat) (x1 : ByteArray) (x2 : Int) (z11 : (Int × Int)) : Option ((Int × Int) ⊕ ((Int × Int × Int) ⊕ Unit)) :=
cond (decide (z11.2 < 5)) (
cond (decide ((x1.size : Int) ≤ (IntKind.wrap .i64 (x2 + z11.2)))) (
some (.inr (.inl (0, 0, 3)))) (
grd (decide (0 ≤ (IntKind.wrap .i64 (x2 + z11.2)) ∧ (IntKind.wrap .i64 (x2 + z11.2)) < (x1.size : Int))) <|
((cond (z11.2 == 4) (
cond (decide (15 < (bt x1 (IntKind.wrap .i64 (x2 + z11.2))))) (
some true) (
cond (decide (0 < z11.2)) (
some ((bt x1 (IntKind.wrap .i64 (x2 + z11.2))) == 0)) (
some false))) (
cond (decide (0 < z11.2)) (
some ((bt x1 (IntKind.wrap .i64 (x2 + z11.2))) == 0)) (
some false)) : Option Bool)).bind fun y12 => 
cond y12 (
some (.inr (.inl (0, 0, 2)))) (
grd (decide (0 ≤ (IntKind.wrap .i64 (7 * z11.2)))) <|
cond (decide ((bt x1 (IntKind.wrap .i64 (x2 + z11.2))) < 128)) (
some (.inr (.inl ((bits .or .u32 z11.1 (IntKind.wrap .u32 ((IntKind.wrap .u32 (bits .and .u8 (bt x1 (IntKind.wrap .i64 (x2 + z11.2))) 127)) * 2 ^ (min (IntKind.wrap .i64 (7 * z11.2)).toNat 32)))), (IntKind.wrap .i64 ((IntKind.wrap .i64 (x2 + z11.2)) + 1)), 0)))) (
some (.inl ((bits .or .u32 z11.1 (IntKind.wrap .u32 ((IntKind.wrap .u32 (bits .and .u8 (bt x1 (IntKind.wrap .i64 (x2 + z11.2))) 127)) * 2 ^ (min (IntKind.wrap .i64 (7 * z11.2)).toNat 32)))), (IntKind.wrap .i64 (z11.2 + 1)))))))) (
some (.inr (.inr ())))
noncomputable def F38 (k : Nat) (x1 : ByteArray) (x2 : Int) : Option (Int × Int × Int) :=
((cond (decide (x2 < 0)) (
some true) (
some (decide ((x1.size : Int) < x2))) : Option Bool)).bind fun y2 => 
cond y2 (
some (0, 0, 1)) (
(loopN (L38_16 k x1 x2) k (0, 0)).bind fun y13 => 
sel (fun y14 =>
some (y14.1, y14.2.1, y14.2.2)) (fun y15 =>
some (0, 0, 2)) y13)
def A38 : CTpl := ⟨[.s, .i .i64], []⟩
def h38 : List HTy := [.ts, .ti]
def R38 : List RTpl := [⟨.tp [.i .u32, .i .i64, .i .i64], [], [.ti, .ti, .ti]⟩]
def n38 : An := .sq (.nd) (.sq (.jn [0, 1] [] [(0, ⟨[(17, .b)], []⟩)] [[.tb]] (.nd) (.nd)) (.sq (.nd) (.sq (.sq (.nd) (.lp [0, 1] [] ⟨[(7, .i .u32), (18, .i .i64)], []⟩ [.ti, .ti] [(1, ⟨[(4, .i .u32), (5, .i .i64), (6, .i .i64)], []⟩), (2, ⟨[], []⟩)] [[.ti, .ti, .ti], []] (.sq (.nd) (.sq (.nd) (.sq (.sq (.nd) (.sq (.nd) (.sq (.nd) (.sq (.jn [7, 8, 9, 18] [] [(0, ⟨[(45, .b)], []⟩)] [[.tb]] (.nd) (.nd)) (.nd))))) (.nd)))))) (.nd))))
theorem e38 (k : Nat) (y : Tup h38) : exec (P := Tryd.prog) D (lk rowsL) [] k (bodyOf Tryd.f38) n38 (fnE Tryd.f38 A38 [] (inOf A38 (ofTup h38 y))) (fnSt [] (inOf A38 (ofTup h38 y))) (leafR D (fnE Tryd.f38 A38 [] (inOf A38 (ofTup h38 y))) Tryd.f38.results.toList (R38.map (·.h)) R38) = F38 k y.1 y.2 := by kernel_rfl
noncomputable def C38 (k : Nat) : Con Tryd.prog := ⟨38, Tryd.f38, Tryd.func38, by kernel_rfl, by kernel_rfl, A38, h38, [], R38, fun y => F38 k y.1 y.2, fun y r h => con_ok good mixed (c := bodyOf Tryd.f38) Tryd.func38 (by kernel_rfl) n38 y ((e38 k y).trans h)⟩
noncomputable def F50 (k : Nat) (x1 : ByteArray) (x2 : Int) (x3 : Int) : Option (ByteArray × Int × Int) :=
(F38 k x1 x2).bind fun y2 => 
cond (y2.2.2 != 0) (
some ((⟨#[]⟩ : ByteArray), 0, y2.2.2)) (
cond (decide ((mx x3 0) < (IntKind.wrap .i64 y2.1))) (
some ((⟨#[]⟩ : ByteArray), 0, 4)) (
cond (decide ((IntKind.wrap .i64 ((x1.size : Int) - y2.2.1)) < (IntKind.wrap .i64 y2.1))) (
some ((⟨#[]⟩ : ByteArray), 0, 3)) (
grd (bnds (x1.size : Int) y2.2.1 (IntKind.wrap .i64 (y2.2.1 + (IntKind.wrap .i64 y2.1)))) <|
some ((x1.extract y2.2.1.toNat ((IntKind.wrap .i64 (y2.2.1 + (IntKind.wrap .i64 y2.1))).toNat)), (IntKind.wrap .i64 (y2.2.1 + (IntKind.wrap .i64 y2.1))), 0))))
def A50 : CTpl := ⟨[.s, .i .i64, .i .i64], []⟩
def h50 : List HTy := [.ts, .ti, .ti]
def R50 : List RTpl := [⟨.tp [.s, .i .i64, .i .i64], [], [.ts, .ti, .ti]⟩]
def n50 : An := .nd
theorem e50 (k : Nat) (y : Tup h50) : exec (P := Tryd.prog) D (lk rowsL) [C38 k] k (bodyOf Tryd.f50) n50 (fnE Tryd.f50 A50 [] (inOf A50 (ofTup h50 y))) (fnSt [] (inOf A50 (ofTup h50 y))) (leafR D (fnE Tryd.f50 A50 [] (inOf A50 (ofTup h50 y))) Tryd.f50.results.toList (R50.map (·.h)) R50) = F50 k y.1 y.2.1 y.2.2 := by kernel_rfl
noncomputable def C50 (k : Nat) : Con Tryd.prog := ⟨50, Tryd.f50, Tryd.func50, by kernel_rfl, by kernel_rfl, A50, h50, [], R50, fun y => F50 k y.1 y.2.1 y.2.2, fun y r h => con_ok good mixed (c := bodyOf Tryd.f50) Tryd.func50 (by kernel_rfl) n50 y ((e50 k y).trans h)⟩
noncomputable def F39 (k : Nat) (x1 : ByteArray) (x2 : Int) : Option (ByteArray × Bool × ByteArray × Int × Int) :=
cond (decide ((x1.size : Int) ≤ x2)) (
some (ByteArray.empty, false, ByteArray.empty, 0, 3)) (
grd (decide (0 ≤ x2 ∧ x2 < (x1.size : Int))) <|
cond (decide (1 < (bt x1 x2))) (
some (ByteArray.empty, false, ByteArray.empty, 0, 2)) (
grd (decide (0 ≤ x2 ∧ x2 < (x1.size : Int))) <|
(F50 k x1 (IntKind.wrap .i64 (x2 + 1)) 48).bind fun y4 => 
((cond (y4.2.2 != 0) (
some true) (
some ((bt x1 x2) == 1)) : Option Bool)).bind fun y5 => 
cond y5 (
some (y4.1, ((bt x1 x2) == 1), ByteArray.empty, y4.2.1, y4.2.2)) (
(F50 k x1 y4.2.1 48).bind fun y7 => 
some (y4.1, ((bt x1 x2) == 1), y7.1, y7.2.1, y7.2.2))))
def A39 : CTpl := ⟨[.s, .i .i64], []⟩
def h39 : List HTy := [.ts, .ti]
def R39 : List RTpl := [⟨.tp [.ag [.s, .b, .s], .i .i64, .i .i64], [], [.ts, .tb, .ts, .ti, .ti]⟩]
def n39 : An := .sq (.nd) (.sq (.nd) (.sq (.nd) (.sq (.nd) (.sq (.nd) (.sq (.sq (.nd) (.jn [0, 1, 4, 7, 8] [4, 7] [(0, ⟨[(38, .b)], []⟩)] [[.tb]] (.nd) (.nd))) (.nd))))))
theorem e39 (k : Nat) (y : Tup h39) : exec (P := Tryd.prog) D (lk rowsL) [C50 k] k (bodyOf Tryd.f39) n39 (fnE Tryd.f39 A39 [] (inOf A39 (ofTup h39 y))) (fnSt [] (inOf A39 (ofTup h39 y))) (leafR D (fnE Tryd.f39 A39 [] (inOf A39 (ofTup h39 y))) Tryd.f39.results.toList (R39.map (·.h)) R39) = F39 k y.1 y.2 := by kernel_rfl
noncomputable def C39 (k : Nat) : Con Tryd.prog := ⟨39, Tryd.f39, Tryd.func39, by kernel_rfl, by kernel_rfl, A39, h39, [], R39, fun y => F39 k y.1 y.2, fun y r h => con_ok good mixed (c := bodyOf Tryd.f39) Tryd.func39 (by kernel_rfl) n39 y ((e39 k y).trans h)⟩
noncomputable def L16_26 (k : Nat) (x1 : ByteArray) (y2 : (Int × Int × Int)) (z18 : (Int × Int × (List (ByteArray × Bool × ByteArray)))) : Option ((Int × Int × (List (ByteArray × Bool × ByteArray))) ⊕ (Int ⊕ (Int × (List (ByteArray × Bool × ByteArray))))) :=
cond (decide (z18.2.1 < y2.1)) (
(F39 k x1 z18.1).bind fun y19 => 
cond (y19.2.2.2.2 != 0) (
some (.inr (.inl y19.2.2.2.2))) (
grd (decide ((z18.2.2.length + [(y19.1, y19.2.1, y19.2.2.1)].length) * 40 ≤ 140737488355328)) <|
some (.inl (y19.2.2.2.1, (IntKind.wrap .u32 (z18.2.1 + 1)), (z18.2.2 ++ [(y19.1, y19.2.1, y19.2.2.1)]))))) (
some (.inr (.inr (z18.1, z18.2.2))))
noncomputable def F16 (k : Nat) (x1 : ByteArray) : Option ((List (ByteArray × Bool × ByteArray)) × Int) :=
(F38 k x1 0).bind fun y2 => 
cond (y2.2.2 != 0) (
some (([] : List (ByteArray × Bool × ByteArray)), y2.2.2)) (
((cond (decide (y2.1 < 1)) (
some true) (
some (decide (8 < y2.1))) : Option Bool)).bind fun y4 => 
cond y4 (
some (([] : List (ByteArray × Bool × ByteArray)), 12)) (
(loopN (L16_26 k x1 y2) k (y2.2.1, 0, ([] : List (ByteArray × Bool × ByteArray)))).bind fun y20 => 
sel (fun y21 =>
some (([] : List (ByteArray × Bool × ByteArray)), y21)) (fun y22 =>
cond (decide (y22.1 < (x1.size : Int))) (
some (([] : List (ByteArray × Bool × ByteArray)), 2)) (
(F11 k y22.2).bind fun y25 => 
cond (y25 != 0) (
some (([] : List (ByteArray × Bool × ByteArray)), y25)) (
some (y22.2, 0)))) y20))
def A16 : CTpl := ⟨[.s], []⟩
def h16 : List HTy := [.ts]
def R16 : List RTpl := [⟨.tp [.fz .u (.str (.bool (.str .nil))), .i .i64], [], [.tl (.str (.bool (.str .nil))), .ti]⟩]
def n16 : An := .sq (.nd) (.sq (.nd) (.sq (.nd) (.sq (.jn [0, 4, 5] [] [(0, ⟨[(24, .b)], []⟩)] [[.tb]] (.nd) (.nd)) (.sq (.nd) (.sq (.sq (.nd) (.lp [0, 25] [] ⟨[(5, .i .i64), (7, .sl .n 301300), (26, .i .u32)], [(301300, .ar 39 (.str (.bool (.str .nil))))]⟩ [.ti, .ti, .tl (.str (.bool (.str .nil)))] [(1, ⟨[(2, .c (.slice none 0 0)), (3, .i .i64)], []⟩), (2, ⟨[(5, .i .i64), (7, .sl .n 301335)], [(301335, .ar 39 (.str (.bool (.str .nil))))]⟩)] [[.ti], [.ti, .tl (.str (.bool (.str .nil)))]] (.nd))) (.sq (.nd) (.sq (.sq (.fr [(1, 301335)]) (.nd)) (.nd))))))))
theorem e16 (k : Nat) (hm : Mo.m = false) (y : Tup h16) : exec (P := Tryd.prog) D (lk rowsL) [C38 k, C39 k, C11 k hm] k (bodyOf Tryd.f16) n16 (fnE Tryd.f16 A16 [] (inOf A16 (ofTup h16 y))) (fnSt [] (inOf A16 (ofTup h16 y))) (leafR D (fnE Tryd.f16 A16 [] (inOf A16 (ofTup h16 y))) Tryd.f16.results.toList (R16.map (·.h)) R16) = F16 k y := by kernel_rfl
noncomputable def C16 (k : Nat) (hm : Mo.m = false) : Con Tryd.prog := ⟨16, Tryd.f16, Tryd.func16, by kernel_rfl, by kernel_rfl, A16, h16, [], R16, fun y => F16 k y, fun y r h => con_ok good mixed (c := bodyOf Tryd.f16) Tryd.func16 (by kernel_rfl) n16 y ((e16 k hm y).trans h)⟩
noncomputable def L40_16 (k : Nat) (x1 : ByteArray) (z14 : (Int × Int × Int)) : Option ((Int × Int × Int) ⊕ (Int ⊕ (Int × Int))) :=
cond (decide (z14.2.2 < 5)) (
cond (decide ((x1.size : Int) ≤ z14.1)) (
some (.inr (.inl 3))) (
grd (decide (0 ≤ z14.1 ∧ z14.1 < (x1.size : Int))) <|
((cond (z14.2.2 == 4) (
cond (decide (15 < (bt x1 z14.1))) (
some true) (
cond ((bt x1 z14.1) == 0) (
some (decide (0 < z14.2.2))) (
some false))) (
cond ((bt x1 z14.1) == 0) (
some (decide (0 < z14.2.2))) (
some false)) : Option Bool)).bind fun y15 => 
cond y15 (
some (.inr (.inl 2))) (
grd (decide (0 ≤ (IntKind.wrap .u64 (IntKind.wrap .i64 (7 * z14.2.2))))) <|
cond (decide ((bt x1 z14.1) < 128)) (
some (.inr (.inr ((IntKind.wrap .i64 (z14.1 + 1)), (bits .or .u32 z14.2.1 (IntKind.wrap .u32 ((IntKind.wrap .u32 ((bt x1 z14.1).tmod 128)) * 2 ^ (min (IntKind.wrap .u64 (IntKind.wrap .i64 (7 * z14.2.2))).toNat 32)))))))) (
some (.inl ((IntKind.wrap .i64 (z14.1 + 1)), (bits .or .u32 z14.2.1 (IntKind.wrap .u32 ((IntKind.wrap .u32 ((bt x1 z14.1).tmod 128)) * 2 ^ (min (IntKind.wrap .u64 (IntKind.wrap .i64 (7 * z14.2.2))).toNat 32)))), (IntKind.wrap .i64 (z14.2.2 + 1)))))))) (
some (.inr (.inr (z14.1, z14.2.1))))
noncomputable def F40 (k : Nat) (x1 : ByteArray) (x2 : Int) : Option (Int × Int × Int) :=
((cond (decide (x2 < 0)) (
some true) (
some (decide ((x1.size : Int) < x2))) : Option Bool)).bind fun y2 => 
cond y2 (
some (0, 0, 1)) (
(loopN (L40_16 k x1) k (x2, 0, 0)).bind fun y16 => 
sel (fun y17 =>
some (0, 0, y17)) (fun y18 =>
some (y18.2, y18.1, 0)) y16)
def A40 : CTpl := ⟨[.s, .i .i64], []⟩
def h40 : List HTy := [.ts, .ti]
def R40 : List RTpl := [⟨.tp [.i .u32, .i .i64, .i .i64], [], [.ti, .ti, .ti]⟩]
def n40 : An := .sq (.nd) (.sq (.jn [0, 1] [] [(0, ⟨[(17, .b)], []⟩)] [[.tb]] (.nd) (.nd)) (.sq (.nd) (.sq (.sq (.nd) (.lp [0] [] ⟨[(1, .i .i64), (7, .i .u32), (8, .i .i64)], []⟩ [.ti, .ti, .ti] [(1, ⟨[(4, .li .u32 0), (5, .li .i64 0), (6, .i .i64)], []⟩), (2, ⟨[(1, .i .i64), (7, .i .u32)], []⟩)] [[.ti], [.ti, .ti]] (.sq (.nd) (.sq (.sq (.nd) (.sq (.nd) (.sq (.nd) (.sq (.jn [1, 7, 8, 9] [] [(0, ⟨[(44, .b)], []⟩)] [[.tb]] (.nd) (.nd)) (.nd))))) (.nd))))) (.nd))))
theorem e40 (k : Nat) (y : Tup h40) : exec (P := Tryd.prog) D (lk rowsL) [] k (bodyOf Tryd.f40) n40 (fnE Tryd.f40 A40 [] (inOf A40 (ofTup h40 y))) (fnSt [] (inOf A40 (ofTup h40 y))) (leafR D (fnE Tryd.f40 A40 [] (inOf A40 (ofTup h40 y))) Tryd.f40.results.toList (R40.map (·.h)) R40) = F40 k y.1 y.2 := by kernel_rfl
noncomputable def C40 (k : Nat) : Con Tryd.prog := ⟨40, Tryd.f40, Tryd.func40, by kernel_rfl, by kernel_rfl, A40, h40, [], R40, fun y => F40 k y.1 y.2, fun y r h => con_ok good mixed (c := bodyOf Tryd.f40) Tryd.func40 (by kernel_rfl) n40 y ((e40 k y).trans h)⟩
noncomputable def F41 (k : Nat) (x1 : ByteArray) (x2 : Int) (x3 : Int) : Option (ByteArray × Int × Int) :=
(F40 k x1 x2).bind fun y2 => 
cond (y2.2.2 != 0) (
some ((⟨#[]⟩ : ByteArray), 0, y2.2.2)) (
cond (decide ((mx x3 0) < (IntKind.wrap .i64 y2.1))) (
some ((⟨#[]⟩ : ByteArray), 0, 4)) (
cond (decide ((IntKind.wrap .i64 ((x1.size : Int) - y2.2.1)) < (IntKind.wrap .i64 y2.1))) (
some ((⟨#[]⟩ : ByteArray), 0, 3)) (
grd (bnds (x1.size : Int) y2.2.1 (IntKind.wrap .i64 (y2.2.1 + (IntKind.wrap .i64 y2.1)))) <|
some ((x1.extract y2.2.1.toNat ((IntKind.wrap .i64 (y2.2.1 + (IntKind.wrap .i64 y2.1))).toNat)), (IntKind.wrap .i64 (y2.2.1 + (IntKind.wrap .i64 y2.1))), 0))))
def A41 : CTpl := ⟨[.s, .i .i64, .i .i64], []⟩
def h41 : List HTy := [.ts, .ti, .ti]
def R41 : List RTpl := [⟨.tp [.s, .i .i64, .i .i64], [], [.ts, .ti, .ti]⟩]
def n41 : An := .nd
theorem e41 (k : Nat) (y : Tup h41) : exec (P := Tryd.prog) D (lk rowsL) [C40 k] k (bodyOf Tryd.f41) n41 (fnE Tryd.f41 A41 [] (inOf A41 (ofTup h41 y))) (fnSt [] (inOf A41 (ofTup h41 y))) (leafR D (fnE Tryd.f41 A41 [] (inOf A41 (ofTup h41 y))) Tryd.f41.results.toList (R41.map (·.h)) R41) = F41 k y.1 y.2.1 y.2.2 := by kernel_rfl
noncomputable def C41 (k : Nat) : Con Tryd.prog := ⟨41, Tryd.f41, Tryd.func41, by kernel_rfl, by kernel_rfl, A41, h41, [], R41, fun y => F41 k y.1 y.2.1 y.2.2, fun y r h => con_ok good mixed (c := bodyOf Tryd.f41) Tryd.func41 (by kernel_rfl) n41 y ((e41 k y).trans h)⟩
noncomputable def L17_26 (k : Nat) (x1 : ByteArray) (y2 : (Int × Int × Int)) (z35 : (Int × Int × (List (ByteArray × Bool × ByteArray)))) : Option ((Int × Int × (List (ByteArray × Bool × ByteArray))) ⊕ (Int ⊕ (Int × (List (ByteArray × Bool × ByteArray))))) :=
cond (decide (z35.2.1 < (IntKind.wrap .i64 y2.1))) (
cond (decide ((x1.size : Int) ≤ z35.1)) (
some (.inr (.inl 3))) (
grd (decide (0 ≤ z35.1 ∧ z35.1 < (x1.size : Int))) <|
cond (decide (1 < (bt x1 z35.1))) (
some (.inr (.inl 2))) (
grd (decide (0 ≤ z35.1 ∧ z35.1 < (x1.size : Int))) <|
(F41 k x1 (IntKind.wrap .i64 (z35.1 + 1)) 48).bind fun y36 => 
((((cond (y36.2.2 == 0) (
some (!((bt x1 z35.1) == 1))) (
some false) : Option Bool)).bind fun y37 => 
cond y37 (
(F41 k x1 y36.2.1 48).bind fun y38 => 
some (y38.2.1, y38.2.2, y36.1, ((bt x1 z35.1) == 1), y38.1)) (
some (y36.2.1, y36.2.2, y36.1, ((bt x1 z35.1) == 1), ByteArray.empty)) : Option (Int × Int × ByteArray × Bool × ByteArray))).bind fun y39 => 
cond (y39.2.1 != 0) (
some (.inr (.inl y39.2.1))) (
grd (decide ((z35.2.2.length + [(y39.2.2.1, y39.2.2.2.1, y39.2.2.2.2)].length) * 40 ≤ 140737488355328)) <|
some (.inl (y39.1, (IntKind.wrap .i64 (z35.2.1 + 1)), (z35.2.2 ++ [(y39.2.2.1, y39.2.2.2.1, y39.2.2.2.2)]))))))) (
some (.inr (.inr (z35.1, z35.2.2))))
noncomputable def F17 (k : Nat) (x1 : ByteArray) : Option ((List (ByteArray × Bool × ByteArray)) × Int) :=
(F40 k x1 0).bind fun y2 => 
cond (y2.2.2 != 0) (
some (([] : List (ByteArray × Bool × ByteArray)), y2.2.2)) (
((cond (decide (y2.1 < 1)) (
some true) (
some (decide (8 < y2.1))) : Option Bool)).bind fun y4 => 
cond y4 (
some (([] : List (ByteArray × Bool × ByteArray)), 12)) (
(loopN (L17_26 k x1 y2) k (y2.2.1, 0, ([] : List (ByteArray × Bool × ByteArray)))).bind fun y40 => 
sel (fun y41 =>
some (([] : List (ByteArray × Bool × ByteArray)), y41)) (fun y42 =>
cond (y42.1 != (x1.size : Int)) (
some (([] : List (ByteArray × Bool × ByteArray)), 2)) (
(F12 k y42.2).bind fun y45 => 
cond (y45 != 0) (
some (([] : List (ByteArray × Bool × ByteArray)), y45)) (
some (y42.2, 0)))) y40))
def A17 : CTpl := ⟨[.s], []⟩
def h17 : List HTy := [.ts]
def R17 : List RTpl := [⟨.tp [.fz .u (.str (.bool (.str .nil))), .i .i64], [], [.tl (.str (.bool (.str .nil))), .ti]⟩]
def n17 : An := .sq (.nd) (.sq (.nd) (.sq (.nd) (.sq (.jn [0, 4, 5] [] [(0, ⟨[(25, .b)], []⟩)] [[.tb]] (.nd) (.nd)) (.sq (.nd) (.sq (.sq (.nd) (.lp [0, 4] [] ⟨[(5, .i .i64), (7, .sl .n 301300), (8, .i .i64)], [(301300, .ar 39 (.str (.bool (.str .nil))))]⟩ [.ti, .ti, .tl (.str (.bool (.str .nil)))] [(1, ⟨[(2, .c (.slice none 0 0)), (3, .i .i64)], []⟩), (2, ⟨[(5, .i .i64), (7, .sl .n 301335)], [(301335, .ar 39 (.str (.bool (.str .nil))))]⟩)] [[.ti], [.ti, .tl (.str (.bool (.str .nil)))]] (.sq (.nd) (.sq (.sq (.nd) (.sq (.nd) (.sq (.nd) (.sq (.nd) (.jn [7, 8, 9] [301300] [(0, ⟨[(5, .i .i64), (6, .i .i64)], [(9, .bx 39 [.s, .b, .s])]⟩)] [[.ti, .ti, .ts, .tb, .ts]] (.jn [5, 6] [9] [(0, ⟨[(60, .b)], []⟩)] [[.tb]] (.nd) (.nd)) (.nd)))))) (.nd))))) (.sq (.nd) (.sq (.sq (.fr [(1, 301335)]) (.nd)) (.nd))))))))
theorem e17 (k : Nat) (y : Tup h17) : exec (P := Tryd.prog) D (lk rowsL) [C40 k, C41 k, C12 k] k (bodyOf Tryd.f17) n17 (fnE Tryd.f17 A17 [] (inOf A17 (ofTup h17 y))) (fnSt [] (inOf A17 (ofTup h17 y))) (leafR D (fnE Tryd.f17 A17 [] (inOf A17 (ofTup h17 y))) Tryd.f17.results.toList (R17.map (·.h)) R17) = F17 k y := by kernel_rfl
noncomputable def C17 (k : Nat) : Con Tryd.prog := ⟨17, Tryd.f17, Tryd.func17, by kernel_rfl, by kernel_rfl, A17, h17, [], R17, fun y => F17 k y, fun y r h => con_ok good mixed (c := bodyOf Tryd.f17) Tryd.func17 (by kernel_rfl) n17 y ((e17 k y).trans h)⟩
noncomputable def L18_14 (k : Nat) (x1 : (List (ByteArray × Bool × ByteArray))) (x2 : (List (ByteArray × Bool × ByteArray))) (z15 : Int) : Option (Int ⊕ (Unit ⊕ Unit)) :=
cond (decide (z15 < (x1.length : Int))) (
(ix x1 z15).bind fun a16 =>
(ix x2 z15).bind fun a17 =>
cond (!((a16.1.toList == a17.1.toList) && ((a16.2.1 == a17.2.1) && ((a16.2.2.toList == a17.2.2.toList) && true)))) (
some (.inr (.inl ()))) (
some (.inl (IntKind.wrap .i64 (z15 + 1))))) (
some (.inr (.inr ())))
noncomputable def F18 (k : Nat) (x1 : (List (ByteArray × Bool × ByteArray))) (x2 : (List (ByteArray × Bool × ByteArray))) : Option Bool :=
cond ((x1.length : Int) != (x2.length : Int)) (
some false) (
(loopN (L18_14 k x1 x2) k 0).bind fun y18 => 
sel (fun y19 =>
some false) (fun y20 =>
some true) y18)
def A18 : CTpl := ⟨[.fz .u (.str (.bool (.str .nil))), .fz .u (.str (.bool (.str .nil)))], []⟩
def h18 : List HTy := [.tl (.str (.bool (.str .nil))), .tl (.str (.bool (.str .nil)))]
def R18 : List RTpl := [⟨.b, [], [.tb]⟩]
def n18 : An := .sq (.nd) (.sq (.nd) (.sq (.sq (.nd) (.lp [0, 1] [] ⟨[(5, .i .i64)], []⟩ [.ti] [(1, ⟨[(4, .lb false)], []⟩), (2, ⟨[], []⟩)] [[], []] (.sq (.nd) (.sq (.sq (.mk [] [0, 0, 3, 7, 0, 0, 48, 112, 255]) (.nd)) (.nd))))) (.nd)))
theorem e18 (k : Nat) (y : Tup h18) : exec (P := Tryd.prog) D (lk rowsL) [] k (bodyOf Tryd.f18) n18 (fnE Tryd.f18 A18 [] (inOf A18 (ofTup h18 y))) (fnSt [] (inOf A18 (ofTup h18 y))) (leafR D (fnE Tryd.f18 A18 [] (inOf A18 (ofTup h18 y))) Tryd.f18.results.toList (R18.map (·.h)) R18) = F18 k y.1 y.2 := by kernel_rfl
noncomputable def C18 (k : Nat) : Con Tryd.prog := ⟨18, Tryd.f18, Tryd.func18, by kernel_rfl, by kernel_rfl, A18, h18, [], R18, fun y => F18 k y.1 y.2, fun y r h => con_ok good mixed (c := bodyOf Tryd.f18) Tryd.func18 (by kernel_rfl) n18 y ((e18 k y).trans h)⟩
noncomputable def F6 (k : Nat) (x1 : (List (ByteArray × Bool × ByteArray))) (x2 : Int) (x3 : Int) (x4 : Bool) : Option Bool :=
(F13 k x1 8).bind fun y3 => 
(F19 k y3).bind fun y4 => 
(F15 k y4).bind fun y6 => 
(((F10 k).bind fun y11 => 
cond (!y11) (
some true) (
some (y6.2 != 0)) : Option Bool)).bind fun y12 => 
cond y12 (
(F10 k).bind fun y13 => 
some y13) (
(F20 k x2 (y6.1.size : Int)).bind fun y15 => 
grd (decide (y6.1.size ≤ 9223372036854775807)) <|
(ix (strNums y6.1) y15).bind fun a16 =>
((strNums y6.1)[y15.toNat]?).bind fun a17 =>
(ix (strNums y6.1) y15).bind fun a18 =>
(((strNums y6.1)[y15.toNat]?).bind fun a19 => some (bits .xor .u8 a17 x3)).bind fun a20 =>
((cond x4 (
grd (bnds (((strNums y6.1).set y15.toNat a20).length : Int) 0 y15) <|
some ((((strNums y6.1).set y15.toNat a20).drop 0).take (y15.toNat - 0))) (
some ((strNums y6.1).set y15.toNat a20)) : Option (List Int))).bind fun y21 => 
(F16 k (strOfNums y21)).bind fun y23 => 
(F17 k (strOfNums y21)).bind fun y25 => 
cond (y23.2 == y25.2) (
(F18 k y23.1 y25.1).bind fun y26 => 
some y26) (
some false))
def A6 : CTpl := ⟨[.fz .u (.str (.bool (.str .nil))), .i .i64, .i .u8, .b], []⟩
def h6 : List HTy := [.tl (.str (.bool (.str .nil))), .ti, .ti, .tb]
def R6 : List RTpl := [⟨.b, [], [.tb]⟩]
def n6 : An := .sq (.nd) (.sq (.fr [(2, 401800)]) (.sq (.fr [(1, 401900)]) (.sq (.jn [1, 2, 3, 9] [] [(0, ⟨[(30, .b)], []⟩)] [[.tb]] (.nd) (.nd)) (.sq (.nd) (.sq (.nd) (.sq (.nd) (.jn [] [] [(0, ⟨[(12, .fz .u (.int .u8 .nil))], []⟩)] [[.tl (.int .u8 .nil)]] (.nd) (.nd))))))))
theorem e6 (k : Nat) (hm : Mo.m = false) (y : Tup h6) : exec (P := Tryd.prog) D (lk rowsL) [C13 k, C19 k, C15 k, C10 k hm, C20 k, C16 k hm, C17 k, C18 k] k (bodyOf Tryd.f6) n6 (fnE Tryd.f6 A6 [] (inOf A6 (ofTup h6 y))) (fnSt [] (inOf A6 (ofTup h6 y))) (leafR D (fnE Tryd.f6 A6 [] (inOf A6 (ofTup h6 y))) Tryd.f6.results.toList (R6.map (·.h)) R6) = F6 k y.1 y.2.1 y.2.2.1 y.2.2.2 := by kernel_rfl
noncomputable def C6 (k : Nat) (hm : Mo.m = false) : Con Tryd.prog := ⟨6, Tryd.f6, Tryd.func6, by kernel_rfl, by kernel_rfl, A6, h6, [], R6, fun y => F6 k y.1 y.2.1 y.2.2.1 y.2.2.2, fun y r h => con_ok good mixed (c := bodyOf Tryd.f6) Tryd.func6 (by kernel_rfl) n6 y ((e6 k hm y).trans h)⟩
end Go.Proofs.YtnmdjmfpihcglaaDoor.N

/- What the functions compute, natively, and that they do. Printed by a program (wip/xg). -/
import Derived.Test.YtnjkfchgakpjgaaDoorMc4
import Derived.Test.YtnjkfchgakpjgaaDoorProg
import Derived.Test.YtnjkfchgakpjgaaDoorShelf
namespace Go.Proofs.YtnjkfchgakpjgaaDoor.N
open Go Go.RowKit Go.Proofs.YtnjkfchgakpjgaaDoor.Mc Go.Proofs
set_option maxRecDepth 100000
set_option maxHeartbeats 0
set_option linter.unusedVariables false
noncomputable abbrev D := decOf Tryd.prog
theorem good : Go.Proofs.YtnjkfchgakpjgaaDoor.Mc.Good Tryd.prog D := good_of _
theorem mixed : Tryd.prog.follows .mixedOrders = true := by kernel_rfl
def rowsL : List (Nat × Row) := [(34, (.str (.bool (.str .nil)))), (39, (.str .nil)), (56, (.str (.int .u32 (.int .u32 .nil)))), (70, (.str (.int .u32 (.int .u32 .nil)))), (82, (.int .u8 .nil)), (88, (.int .i32 .nil)), (91, (.int .i64 .nil))]
def namesT : List ByteArray := [(⟨#[97]⟩ : ByteArray), (⟨#[98]⟩ : ByteArray), (⟨#[99]⟩ : ByteArray), (⟨#[97, 98]⟩ : ByteArray), (⟨#[107, 49]⟩ : ByteArray), (⟨#[107, 50]⟩ : ByteArray), (⟨#[107, 51]⟩ : ByteArray), (⟨#[195, 169]⟩ : ByteArray), (⟨#[195, 169, 97]⟩ : ByteArray), (⟨#[240, 159, 152, 128]⟩ : ByteArray), (⟨#[42]⟩ : ByteArray), (⟨#[122, 122]⟩ : ByteArray)]
variable [Mo]
noncomputable def F17 (k : Nat) : Option (List (ByteArray × (ByteArray × Int × Int))) :=
some ([] : List (ByteArray × (ByteArray × Int × Int)))
def A17 : CTpl := ⟨[], []⟩
def h17 : List HTy := []
def R17 : List RTpl := [⟨.pt 500000 0, [(500000, .bx 72 [.mp 500001]), (500001, .mp ⟨.s, true, (.str (.int .u32 (.int .u32 .nil)))⟩)], [.tm ⟨.s, true, (.str (.int .u32 (.int .u32 .nil)))⟩]⟩]
def n17 : An := .nd
theorem e17 (k : Nat) (y : Tup h17) : exec (P := Tryd.prog) D (lk rowsL) [] k (bodyOf Tryd.f17) n17 (fnE Tryd.f17 A17 [] (inOf A17 (ofTup h17 y))) (fnSt [] (inOf A17 (ofTup h17 y))) (leafR D (fnE Tryd.f17 A17 [] (inOf A17 (ofTup h17 y))) Tryd.f17.results.toList (R17.map (·.h)) R17) = F17 k := by kernel_rfl
noncomputable def C17 (k : Nat) : Con Tryd.prog := ⟨17, Tryd.f17, Tryd.func17, by kernel_rfl, by kernel_rfl, A17, h17, [], R17, fun y => F17 k, fun y r h => con_ok good mixed (c := bodyOf Tryd.f17) Tryd.func17 (by kernel_rfl) n17 y ((e17 k y).trans h)⟩
noncomputable def F25 (k : Nat) (x1 : Int) (x2 : Int) : Option Int :=
grd (x2 != 0) <|
((cond (decide ((x1.tmod x2) < 0)) (
some (IntKind.wrap .i64 ((x1.tmod x2) + x2))) (
some (x1.tmod x2)) : Option Int)).bind fun y1 => 
some y1
def A25 : CTpl := ⟨[.i .i64, .i .i64], []⟩
def h25 : List HTy := [.ti, .ti]
def R25 : List RTpl := [⟨.i .i64, [], [.ti]⟩]
def n25 : An := .sq (.nd) (.sq (.nd) (.jn [] [] [(0, ⟨[(0, .i .i64)], []⟩)] [[.ti]] (.nd) (.nd)))
theorem e25 (k : Nat) (y : Tup h25) : exec (P := Tryd.prog) D (lk rowsL) [] k (bodyOf Tryd.f25) n25 (fnE Tryd.f25 A25 [] (inOf A25 (ofTup h25 y))) (fnSt [] (inOf A25 (ofTup h25 y))) (leafR D (fnE Tryd.f25 A25 [] (inOf A25 (ofTup h25 y))) Tryd.f25.results.toList (R25.map (·.h)) R25) = F25 k y.1 y.2 := by kernel_rfl
noncomputable def C25 (k : Nat) : Con Tryd.prog := ⟨25, Tryd.f25, Tryd.func25, by kernel_rfl, by kernel_rfl, A25, h25, [], R25, fun y => F25 k y.1 y.2, fun y r h => con_ok good mixed (c := bodyOf Tryd.f25) Tryd.func25 (by kernel_rfl) n25 y ((e25 k y).trans h)⟩
noncomputable def F9 (k : Nat) (x1 : Int) : Option ByteArray :=
(F25 k x1 12).bind fun y1 => 
(ix namesT y1).bind fun a2 =>
some a2
def A9 : CTpl := ⟨[.i .i64], []⟩
def h9 : List HTy := [.ti]
def R9 : List RTpl := [⟨.s, [], [.ts]⟩]
def n9 : An := .nd
theorem e9 (k : Nat) (y : Tup h9) : exec (P := Tryd.prog) D (lk rowsL) [C25 k] k (bodyOf Tryd.f9) n9 (fnE Tryd.f9 A9 [] (inOf A9 (ofTup h9 y))) (fnSt [] (inOf A9 (ofTup h9 y))) (leafR D (fnE Tryd.f9 A9 [] (inOf A9 (ofTup h9 y))) Tryd.f9.results.toList (R9.map (·.h)) R9) = F9 k y := by kernel_rfl
noncomputable def C9 (k : Nat) : Con Tryd.prog := ⟨9, Tryd.f9, Tryd.func9, by kernel_rfl, by kernel_rfl, A9, h9, [], R9, fun y => F9 k y, fun y r h => con_ok good mixed (c := bodyOf Tryd.f9) Tryd.func9 (by kernel_rfl) n9 y ((e9 k y).trans h)⟩
noncomputable def L38_8 (k : Nat) (x1 : Int) (z21 : (Int × (List Int))) : Option ((Int × (List Int)) ⊕ (List Int)) :=
cond (decide (z21.1 < (z21.2.length : Int))) (
(ix z21.2 z21.1).bind fun a22 =>
((z21.2[z21.1.toNat]?).bind fun a23 => some x1).bind fun a24 =>
some (.inl ((IntKind.wrap .i64 (z21.1 + 1)), (z21.2.set z21.1.toNat a24)))) (
some (.inr z21.2))
noncomputable def F38 (k : Nat) (x1 : Int) (x2 : Int) : Option ByteArray :=
grd (decide (0 ≤ (mx x2 0) ∧ (mx x2 0) ≤ 9223372036854775807 ∧ 1 * ((mx x2 0).toNat) ≤ 281474976710656)) <|
(loopN (L38_8 k x1) k (0, (List.replicate ((mx x2 0).toNat) 0))).bind fun y25 => 
some (strOfNums y25)
def A38 : CTpl := ⟨[.i .u8, .i .i64], []⟩
def h38 : List HTy := [.ti, .ti]
def R38 : List RTpl := [⟨.s, [], [.ts]⟩]
def n38 : An := .sq (.nd) (.sq (.nd) (.sq (.sq (.nd) (.lp [0, 5] [] ⟨[(6, .i .i64)], [(9, .ar 5 (.int .u8 .nil))]⟩ [.ti, .tl (.int .u8 .nil)] [(2, ⟨[], [(9, .ar 5 (.int .u8 .nil))]⟩)] [[.tl (.int .u8 .nil)]] (.nd))) (.nd)))
theorem e38 (k : Nat) (y : Tup h38) : exec (P := Tryd.prog) D (lk rowsL) [] k (bodyOf Tryd.f38) n38 (fnE Tryd.f38 A38 [] (inOf A38 (ofTup h38 y))) (fnSt [] (inOf A38 (ofTup h38 y))) (leafR D (fnE Tryd.f38 A38 [] (inOf A38 (ofTup h38 y))) Tryd.f38.results.toList (R38.map (·.h)) R38) = F38 k y.1 y.2 := by kernel_rfl
noncomputable def C38 (k : Nat) : Con Tryd.prog := ⟨38, Tryd.f38, Tryd.func38, by kernel_rfl, by kernel_rfl, A38, h38, [], R38, fun y => F38 k y.1 y.2, fun y r h => con_ok good mixed (c := bodyOf Tryd.f38) Tryd.func38 (by kernel_rfl) n38 y ((e38 k y).trans h)⟩
noncomputable def F39 (k : Nat) (x1 : ByteArray) (x2 : Int) : Option ByteArray :=
grd (bnds (x1.size : Int) 0 (mn (x1.size : Int) x2)) <|
some (x1.extract 0 ((mn (x1.size : Int) x2).toNat))
def A39 : CTpl := ⟨[.s, .i .i64], []⟩
def h39 : List HTy := [.ts, .ti]
def R39 : List RTpl := [⟨.s, [], [.ts]⟩]
def n39 : An := .nd
theorem e39 (k : Nat) (y : Tup h39) : exec (P := Tryd.prog) D (lk rowsL) [] k (bodyOf Tryd.f39) n39 (fnE Tryd.f39 A39 [] (inOf A39 (ofTup h39 y))) (fnSt [] (inOf A39 (ofTup h39 y))) (leafR D (fnE Tryd.f39 A39 [] (inOf A39 (ofTup h39 y))) Tryd.f39.results.toList (R39.map (·.h)) R39) = F39 k y.1 y.2 := by kernel_rfl
noncomputable def C39 (k : Nat) : Con Tryd.prog := ⟨39, Tryd.f39, Tryd.func39, by kernel_rfl, by kernel_rfl, A39, h39, [], R39, fun y => F39 k y.1 y.2, fun y r h => con_ok good mixed (c := bodyOf Tryd.f39) Tryd.func39 (by kernel_rfl) n39 y ((e39 k y).trans h)⟩
noncomputable def F26 (k : Nat) (x1 : ByteArray) (x2 : Int) : Option ByteArray :=
(((F25 k x2 9).bind fun y4 => 
cond (y4 == 8) (
(F38 k 120 40).bind fun y5 => 
grd (decide (x1.size + y5.size ≤ 9223372036854775807)) <|
some (x1 ++ y5)) (
some x1) : Option ByteArray)).bind fun y6 => 
(F39 k y6 48).bind fun y7 => 
some y7
def A26 : CTpl := ⟨[.s, .i .i64], []⟩
def h26 : List HTy := [.ts, .ti]
def R26 : List RTpl := [⟨.s, [], [.ts]⟩]
def n26 : An := .sq (.nd) (.jn [] [] [(0, ⟨[(0, .s)], []⟩)] [[.ts]] (.nd) (.nd))
theorem e26 (k : Nat) (y : Tup h26) : exec (P := Tryd.prog) D (lk rowsL) [C25 k, C38 k, C39 k] k (bodyOf Tryd.f26) n26 (fnE Tryd.f26 A26 [] (inOf A26 (ofTup h26 y))) (fnSt [] (inOf A26 (ofTup h26 y))) (leafR D (fnE Tryd.f26 A26 [] (inOf A26 (ofTup h26 y))) Tryd.f26.results.toList (R26.map (·.h)) R26) = F26 k y.1 y.2 := by kernel_rfl
noncomputable def C26 (k : Nat) : Con Tryd.prog := ⟨26, Tryd.f26, Tryd.func26, by kernel_rfl, by kernel_rfl, A26, h26, [], R26, fun y => F26 k y.1 y.2, fun y r h => con_ok good mixed (c := bodyOf Tryd.f26) Tryd.func26 (by kernel_rfl) n26 y ((e26 k y).trans h)⟩
noncomputable def F79 (k : Nat) (x1 : ByteArray) (x2 : Int) (x3 : Int) (x4 : Int) : Option Bool :=
cond (decide (x2 < (x1.size : Int))) (
grd (decide (0 ≤ x2 ∧ x2 < (x1.size : Int))) <|
cond (decide (x3 ≤ (bt x1 x2))) (
grd (decide (0 ≤ x2 ∧ x2 < (x1.size : Int))) <|
some (decide ((bt x1 x2) ≤ x4))) (
some false)) (
some false)
def A79 : CTpl := ⟨[.s, .i .i64, .i .u8, .i .u8], []⟩
def h79 : List HTy := [.ts, .ti, .ti, .ti]
def R79 : List RTpl := [⟨.b, [], [.tb]⟩]
def n79 : An := .nd
theorem e79 (k : Nat) (y : Tup h79) : exec (P := Tryd.prog) D (lk rowsL) [] k (bodyOf Tryd.f79) n79 (fnE Tryd.f79 A79 [] (inOf A79 (ofTup h79 y))) (fnSt [] (inOf A79 (ofTup h79 y))) (leafR D (fnE Tryd.f79 A79 [] (inOf A79 (ofTup h79 y))) Tryd.f79.results.toList (R79.map (·.h)) R79) = F79 k y.1 y.2.1 y.2.2.1 y.2.2.2 := by kernel_rfl
noncomputable def C79 (k : Nat) : Con Tryd.prog := ⟨79, Tryd.f79, Tryd.func79, by kernel_rfl, by kernel_rfl, A79, h79, [], R79, fun y => F79 k y.1 y.2.1 y.2.2.1 y.2.2.2, fun y r h => con_ok good mixed (c := bodyOf Tryd.f79) Tryd.func79 (by kernel_rfl) n79 y ((e79 k y).trans h)⟩
noncomputable def F72 (k : Nat) (x1 : ByteArray) (x2 : Int) : Option (Int × Int) :=
grd (decide (0 ≤ x2 ∧ x2 < (x1.size : Int))) <|
cond (decide ((bt x1 x2) < 128)) (
some ((IntKind.wrap .i64 (bt x1 x2)), 1)) (
((cond (decide (194 ≤ (bt x1 x2))) (
cond (decide ((bt x1 x2) ≤ 223)) (
(F79 k x1 (IntKind.wrap .i64 (x2 + 1)) 128 191).bind fun y4 => 
some y4) (
some false)) (
some false) : Option Bool)).bind fun y5 => 
cond y5 (
grd (decide (0 ≤ (IntKind.wrap .i64 (x2 + 1)) ∧ (IntKind.wrap .i64 (x2 + 1)) < (x1.size : Int))) <|
some ((IntKind.wrap .i64 ((IntKind.wrap .i64 ((IntKind.wrap .i64 (bits .and .u8 (bt x1 x2) 31)) * 64)) + (IntKind.wrap .i64 (bits .and .u8 (bt x1 (IntKind.wrap .i64 (x2 + 1))) 63)))), 2)) (
((cond ((bt x1 x2) == 224) (
some (160, 191)) (
cond ((bt x1 x2) == 237) (
some (128, 159)) (
cond ((bt x1 x2) == 240) (
some (144, 191)) (
cond ((bt x1 x2) == 244) (
some (128, 143)) (
some (128, 191))))) : Option (Int × Int))).bind fun y6 => 
((cond (decide (224 ≤ (bt x1 x2))) (
cond (decide ((bt x1 x2) ≤ 239)) (
(F79 k x1 (IntKind.wrap .i64 (x2 + 1)) y6.1 y6.2).bind fun y12 => 
cond y12 (
(F79 k x1 (IntKind.wrap .i64 (x2 + 2)) 128 191).bind fun y13 => 
some y13) (
some false)) (
some false)) (
some false) : Option Bool)).bind fun y14 => 
cond y14 (
grd (decide (0 ≤ (IntKind.wrap .i64 (x2 + 1)) ∧ (IntKind.wrap .i64 (x2 + 1)) < (x1.size : Int))) <|
grd (decide (0 ≤ (IntKind.wrap .i64 (x2 + 2)) ∧ (IntKind.wrap .i64 (x2 + 2)) < (x1.size : Int))) <|
some ((IntKind.wrap .i64 ((IntKind.wrap .i64 ((IntKind.wrap .i64 ((IntKind.wrap .i64 (bits .and .u8 (bt x1 x2) 15)) * 4096)) + (IntKind.wrap .i64 ((IntKind.wrap .i64 (bits .and .u8 (bt x1 (IntKind.wrap .i64 (x2 + 1))) 63)) * 64)))) + (IntKind.wrap .i64 (bits .and .u8 (bt x1 (IntKind.wrap .i64 (x2 + 2))) 63)))), 3)) (
((cond (decide (240 ≤ (bt x1 x2))) (
cond (decide ((bt x1 x2) ≤ 244)) (
(F79 k x1 (IntKind.wrap .i64 (x2 + 1)) y6.1 y6.2).bind fun y22 => 
cond y22 (
(F79 k x1 (IntKind.wrap .i64 (x2 + 2)) 128 191).bind fun y23 => 
cond y23 (
(F79 k x1 (IntKind.wrap .i64 (x2 + 3)) 128 191).bind fun y24 => 
some y24) (
some false)) (
some false)) (
some false)) (
some false) : Option Bool)).bind fun y25 => 
cond y25 (
grd (decide (0 ≤ (IntKind.wrap .i64 (x2 + 1)) ∧ (IntKind.wrap .i64 (x2 + 1)) < (x1.size : Int))) <|
grd (decide (0 ≤ (IntKind.wrap .i64 (x2 + 2)) ∧ (IntKind.wrap .i64 (x2 + 2)) < (x1.size : Int))) <|
grd (decide (0 ≤ (IntKind.wrap .i64 (x2 + 3)) ∧ (IntKind.wrap .i64 (x2 + 3)) < (x1.size : Int))) <|
some ((IntKind.wrap .i64 ((IntKind.wrap .i64 ((IntKind.wrap .i64 ((IntKind.wrap .i64 ((IntKind.wrap .i64 (bits .and .u8 (bt x1 x2) 7)) * 262144)) + (IntKind.wrap .i64 ((IntKind.wrap .i64 (bits .and .u8 (bt x1 (IntKind.wrap .i64 (x2 + 1))) 63)) * 4096)))) + (IntKind.wrap .i64 ((IntKind.wrap .i64 (bits .and .u8 (bt x1 (IntKind.wrap .i64 (x2 + 2))) 63)) * 64)))) + (IntKind.wrap .i64 (bits .and .u8 (bt x1 (IntKind.wrap .i64 (x2 + 3))) 63)))), 4)) (
some (65533, 1)))))
def A72 : CTpl := ⟨[.s, .i .i64], []⟩
def h72 : List HTy := [.ts, .ti]
def R72 : List RTpl := [⟨.tp [.i .i64, .i .i64], [], [.ti, .ti]⟩]
def n72 : An := .sq (.nd) (.sq (.nd) (.sq (.sq (.nd) (.sq (.nd) (.jn [0, 1, 6] [] [(0, ⟨[(17, .b)], []⟩)] [[.tb]] (.nd) (.nd)))) (.sq (.nd) (.jn [0, 1, 6] [] [(0, ⟨[(7, .i .u8), (8, .i .u8)], []⟩)] [[.ti, .ti]] (.nd) (.sq (.jn [0, 1, 6, 7, 8] [] [(0, ⟨[(69, .b)], []⟩)] [[.tb]] (.nd) (.sq (.sq (.mk [] [0, 1, 3, 7, 0, 0, 32, 112, 240, 496, 1008, 2047, 0, 0, 8192, 28672, 61440, 126976, 262143, 524287, 1048575]) (.nd)) (.nd))) (.sq (.jn [0, 1, 6] [] [(0, ⟨[(114, .b)], []⟩)] [[.tb]] (.nd) (.sq (.sq (.mk [] [0, 1, 3, 7, 0, 0, 32, 112, 240, 496, 1008, 2047, 0, 0, 8192, 28672, 61440, 126976, 258048, 524287, 0, 0, 2097152, 7340032, 15728640, 32505856, 67108863, 134217727, 268435455]) (.nd)) (.nd))) (.nd)))))))
theorem e72 (k : Nat) (y : Tup h72) : exec (P := Tryd.prog) D (lk rowsL) [C79 k] k (bodyOf Tryd.f72) n72 (fnE Tryd.f72 A72 [] (inOf A72 (ofTup h72 y))) (fnSt [] (inOf A72 (ofTup h72 y))) (leafR D (fnE Tryd.f72 A72 [] (inOf A72 (ofTup h72 y))) Tryd.f72.results.toList (R72.map (·.h)) R72) = F72 k y.1 y.2 := by kernel_rfl
noncomputable def C72 (k : Nat) : Con Tryd.prog := ⟨72, Tryd.f72, Tryd.func72, by kernel_rfl, by kernel_rfl, A72, h72, [], R72, fun y => F72 k y.1 y.2, fun y r h => con_ok good mixed (c := bodyOf Tryd.f72) Tryd.func72 (by kernel_rfl) n72 y ((e72 k y).trans h)⟩
noncomputable def L58_8 (k : Nat) (x1 : ByteArray) (z8 : (Int × (List Int) × (List Int))) : Option ((Int × (List Int) × (List Int)) ⊕ ((List Int) × (List Int))) :=
cond (decide (z8.1 < (x1.size : Int))) (
(F72 k x1 z8.1).bind fun y9 => 
grd (decide ((z8.2.1.length + [y9.1].length) * 8 ≤ 140737488355328)) <|
grd (decide ((z8.2.2.length + [y9.2].length) * 8 ≤ 140737488355328)) <|
some (.inl ((IntKind.wrap .i64 (z8.1 + y9.2)), (z8.2.1 ++ [y9.1]), (z8.2.2 ++ [y9.2])))) (
some (.inr (z8.2.1, z8.2.2)))
noncomputable def F58 (k : Nat) (x1 : ByteArray) : Option ((List Int) × (List Int)) :=
(loopN (L58_8 k x1) k (0, ([] : List Int), ([] : List Int))).bind fun y10 => 
some (y10.1, y10.2)
def A58 : CTpl := ⟨[.s], []⟩
def h58 : List HTy := [.ts]
def R58 : List RTpl := [⟨.tp [.sl .u 500000, .sl .u 500001], [(500000, .ar 3 (.int .i64 .nil)), (500001, .ar 3 (.int .i64 .nil))], [.tl (.int .i64 .nil), .tl (.int .i64 .nil)]⟩]
def n58 : An := .sq (.nd) (.sq (.nd) (.sq (.sq (.nd) (.lp [0] [] ⟨[(4, .sl .n 300400), (5, .sl .n 300401), (6, .i .i64)], [(300400, .ar 3 (.int .i64 .nil)), (300401, .ar 3 (.int .i64 .nil))]⟩ [.ti, .tl (.int .i64 .nil), .tl (.int .i64 .nil)] [(2, ⟨[(4, .sl .n 300425), (5, .sl .n 300426)], [(300425, .ar 3 (.int .i64 .nil)), (300426, .ar 3 (.int .i64 .nil))]⟩)] [[.tl (.int .i64 .nil), .tl (.int .i64 .nil)]] (.nd))) (.nd)))
theorem e58 (k : Nat) (y : Tup h58) : exec (P := Tryd.prog) D (lk rowsL) [C72 k] k (bodyOf Tryd.f58) n58 (fnE Tryd.f58 A58 [] (inOf A58 (ofTup h58 y))) (fnSt [] (inOf A58 (ofTup h58 y))) (leafR D (fnE Tryd.f58 A58 [] (inOf A58 (ofTup h58 y))) Tryd.f58.results.toList (R58.map (·.h)) R58) = F58 k y := by kernel_rfl
noncomputable def C58 (k : Nat) : Con Tryd.prog := ⟨58, Tryd.f58, Tryd.func58, by kernel_rfl, by kernel_rfl, A58, h58, [], R58, fun y => F58 k y, fun y r h => con_ok good mixed (c := bodyOf Tryd.f58) Tryd.func58 (by kernel_rfl) n58 y ((e58 k y).trans h)⟩
noncomputable def L59_10 (k : Nat) (y2 : ((List Int) × (List Int))) (y4 : ((List Int) × (List Int))) (z40 : Int) : Option (Int ⊕ Int) :=
((cond (decide (z40 < (y2.1.length : Int))) (
cond (decide (z40 < (y4.1.length : Int))) (
(ix y2.1 z40).bind fun a41 =>
(y2.1[z40.toNat]?).bind fun a42 =>
(ix y4.1 z40).bind fun a43 =>
(y4.1[z40.toNat]?).bind fun a44 =>
some (a42 == a44)) (
some false)) (
some false) : Option Bool)).bind fun y45 => 
cond y45 (
some (.inl (IntKind.wrap .i64 (z40 + 1)))) (
some (.inr z40))
noncomputable def F59 (k : Nat) (x1 : ByteArray) (x2 : ByteArray) : Option Int :=
(F58 k x1).bind fun y2 => 
(F58 k x2).bind fun y4 => 
(loopN (L59_10 k y2 y4) k 0).bind fun y46 => 
some y46
def A59 : CTpl := ⟨[.s, .s], []⟩
def h59 : List HTy := [.ts, .ts]
def R59 : List RTpl := [⟨.i .i64, [], [.ti]⟩]
def n59 : An := .sq (.nd) (.sq (.nd) (.sq (.nd) (.sq (.nd) (.sq (.lp [5, 7] [401200, 401700] ⟨[(9, .i .i64)], []⟩ [.ti] [(2, ⟨[(9, .i .i64)], []⟩)] [[.ti]] (.sq (.jn [9] [] [(0, ⟨[(40, .b)], []⟩)] [[.tb]] (.mk [] [0, 0, 2, 7, 15, 31, 31, 95, 255, 511, 1023, 2047, 2047, 8191, 16383, 2047, 2047, 100351, 231423, 524287, 1048575]) (.nd)) (.nd))) (.nd)))))
theorem e59 (k : Nat) (y : Tup h59) : exec (P := Tryd.prog) D (lk rowsL) [C58 k] k (bodyOf Tryd.f59) n59 (fnE Tryd.f59 A59 [] (inOf A59 (ofTup h59 y))) (fnSt [] (inOf A59 (ofTup h59 y))) (leafR D (fnE Tryd.f59 A59 [] (inOf A59 (ofTup h59 y))) Tryd.f59.results.toList (R59.map (·.h)) R59) = F59 k y.1 y.2 := by kernel_rfl
noncomputable def C59 (k : Nat) : Con Tryd.prog := ⟨59, Tryd.f59, Tryd.func59, by kernel_rfl, by kernel_rfl, A59, h59, [], R59, fun y => F59 k y.1 y.2, fun y r h => con_ok good mixed (c := bodyOf Tryd.f59) Tryd.func59 (by kernel_rfl) n59 y ((e59 k y).trans h)⟩
noncomputable def F52 (k : Nat) (x1 : ByteArray) (x2 : ByteArray) : Option Int :=
(F58 k x1).bind fun y2 => 
(F58 k x2).bind fun y4 => 
(F59 k x1 x2).bind fun y6 => 
((cond (y6 == (y2.1.length : Int)) (
some (y6 == (y4.1.length : Int))) (
some false) : Option Bool)).bind fun y12 => 
cond y12 (
some 0) (
cond (y6 == (y2.1.length : Int)) (
some (-1)) (
cond (y6 == (y4.1.length : Int)) (
some 1) (
(ix y2.1 y6).bind fun a13 =>
(y2.1[y6.toNat]?).bind fun a14 =>
(ix y4.1 y6).bind fun a15 =>
(y4.1[y6.toNat]?).bind fun a16 =>
cond (decide (a14 < a16)) (
some (-1)) (
some 1))))
def A52 : CTpl := ⟨[.s, .s], []⟩
def h52 : List HTy := [.ts, .ts]
def R52 : List RTpl := [⟨.i .i64, [], [.ti]⟩]
def n52 : An := .sq (.nd) (.sq (.nd) (.sq (.nd) (.sq (.nd) (.sq (.jn [5, 7, 9] [401200, 401700] [(0, ⟨[(23, .b)], []⟩)] [[.tb]] (.nd) (.sq (.nd) (.sq (.nd) (.sq (.nd) (.sq (.nd) (.sq (.nd) (.sq (.mk [] [0, 0, 3, 7, 0, 0, 48, 112, 255, 511]) (.nd)))))))) (.nd)))))
theorem e52 (k : Nat) (y : Tup h52) : exec (P := Tryd.prog) D (lk rowsL) [C58 k, C59 k] k (bodyOf Tryd.f52) n52 (fnE Tryd.f52 A52 [] (inOf A52 (ofTup h52 y))) (fnSt [] (inOf A52 (ofTup h52 y))) (leafR D (fnE Tryd.f52 A52 [] (inOf A52 (ofTup h52 y))) Tryd.f52.results.toList (R52.map (·.h)) R52) = F52 k y.1 y.2 := by kernel_rfl
noncomputable def C52 (k : Nat) : Con Tryd.prog := ⟨52, Tryd.f52, Tryd.func52, by kernel_rfl, by kernel_rfl, A52, h52, [], R52, fun y => F52 k y.1 y.2, fun y r h => con_ok good mixed (c := bodyOf Tryd.f52) Tryd.func52 (by kernel_rfl) n52 y ((e52 k y).trans h)⟩
noncomputable def F44 (k : Nat) (x1 : ByteArray) (x2 : ByteArray) : Option Bool :=
(F52 k x1 x2).bind fun y2 => 
cond (decide (y2 < 0)) (
some true) (
cond (y2 == 0) (
some (Op.bytesLess x1.toList x2.toList)) (
some false))
def A44 : CTpl := ⟨[.s, .s], []⟩
def h44 : List HTy := [.ts, .ts]
def R44 : List RTpl := [⟨.b, [], [.tb]⟩]
def n44 : An := .nd
theorem e44 (k : Nat) (y : Tup h44) : exec (P := Tryd.prog) D (lk rowsL) [C52 k] k (bodyOf Tryd.f44) n44 (fnE Tryd.f44 A44 [] (inOf A44 (ofTup h44 y))) (fnSt [] (inOf A44 (ofTup h44 y))) (leafR D (fnE Tryd.f44 A44 [] (inOf A44 (ofTup h44 y))) Tryd.f44.results.toList (R44.map (·.h)) R44) = F44 k y.1 y.2 := by kernel_rfl
noncomputable def C44 (k : Nat) : Con Tryd.prog := ⟨44, Tryd.f44, Tryd.func44, by kernel_rfl, by kernel_rfl, A44, h44, [], R44, fun y => F44 k y.1 y.2, fun y r h => con_ok good mixed (c := bodyOf Tryd.f44) Tryd.func44 (by kernel_rfl) n44 y ((e44 k y).trans h)⟩
noncomputable def L45_21 (k : Nat) (x1 : (List ByteArray)) (z115 : (Int × (List ByteArray))) (z116 : Int) : Option (Int ⊕ Int) :=
((cond (decide (z116 < (z115.2.length : Int))) (
(ix z115.2 z116).bind fun a117 =>
(z115.2[z116.toNat]?).bind fun a118 =>
(ix x1 z115.1).bind fun a119 =>
(F44 k a118 a119).bind fun y120 => 
some y120) (
some false) : Option Bool)).bind fun y121 => 
cond y121 (
some (.inl (IntKind.wrap .i64 (z116 + 1)))) (
some (.inr z116))
noncomputable def L45_8 (k : Nat) (x1 : (List ByteArray)) (z115 : (Int × (List ByteArray))) : Option ((Int × (List ByteArray)) ⊕ (List ByteArray)) :=
cond (decide (z115.1 < (x1.length : Int))) (
(((loopN (L45_21 k x1 z115) k 0).bind fun y122 => 
((cond (decide (y122 < (z115.2.length : Int))) (
(ix z115.2 y122).bind fun a123 =>
(z115.2[y122.toNat]?).bind fun a124 =>
(ix x1 z115.1).bind fun a125 =>
some (a124.toList == a125.toList)) (
some false) : Option Bool)).bind fun y126 => 
cond y126 (
some z115.2) (
grd (bnds (z115.2.length : Int) 0 y122) <|
grd (decide ((([] : List ByteArray).length + ((z115.2.drop 0).take (y122.toNat - 0)).length) * 16 ≤ 140737488355328)) <|
(ix x1 z115.1).bind fun a127 =>
grd (decide (((([] : List ByteArray) ++ ((z115.2.drop 0).take (y122.toNat - 0))).length + [a127].length) * 16 ≤ 140737488355328)) <|
grd (bnds (z115.2.length : Int) y122 (z115.2.length : Int)) <|
grd (decide ((((([] : List ByteArray) ++ ((z115.2.drop 0).take (y122.toNat - 0))) ++ [a127]).length + ((z115.2.drop y122.toNat).take (((z115.2.length : Int).toNat) - y122.toNat)).length) * 16 ≤ 140737488355328)) <|
some (((([] : List ByteArray) ++ ((z115.2.drop 0).take (y122.toNat - 0))) ++ [a127]) ++ ((z115.2.drop y122.toNat).take (((z115.2.length : Int).toNat) - y122.toNat)))) : Option (List ByteArray))).bind fun y128 => 
some (.inl ((IntKind.wrap .i64 (z115.1 + 1)), y128))) (
some (.inr z115.2))
noncomputable def F45 (k : Nat) (x1 : (List ByteArray)) : Option (List ByteArray) :=
(loopN (L45_8 k x1) k (0, ([] : List ByteArray))).bind fun y129 => 
some y129
def A45 : CTpl := ⟨[.fz .u (.str .nil)], []⟩
def h45 : List HTy := [.tl (.str .nil)]
def R45 : List RTpl := [⟨.sl .u 500000, [(500000, .ar 9 (.str .nil))], [.tl (.str .nil)]⟩]
def n45 : An := .sq (.nd) (.sq (.nd) (.sq (.sq (.nd) (.lp [0] [] ⟨[(3, .sl .n 300400), (4, .i .i64)], [(300400, .ar 9 (.str .nil))]⟩ [.ti, .tl (.str .nil)] [(2, ⟨[(3, .sl .n 300425)], [(300425, .ar 9 (.str .nil))]⟩)] [[.tl (.str .nil)]] (.sq (.nd) (.jn [4] [] [(0, ⟨[(3, .sl .n 300750)], [(300750, .ar 9 (.str .nil))]⟩)] [[.tl (.str .nil)]] (.sq (.nd) (.sq (.lp [3] [300400] ⟨[(5, .i .i64)], []⟩ [.ti] [(4, ⟨[(5, .i .i64)], []⟩)] [[.ti]] (.sq (.jn [5] [] [(0, ⟨[(26, .b)], []⟩)] [[.tb]] (.mk [] [0, 0, 2, 7, 15, 31, 31, 127, 255, 31, 31, 1567, 3615, 8191, 16383]) (.nd)) (.nd))) (.sq (.jn [3, 5] [300400] [(0, ⟨[(43, .b)], []⟩)] [[.tb]] (.mk [] [0, 0, 2, 7, 15, 31, 31, 127, 255, 31, 31, 1567, 3615, 8191, 16383]) (.nd)) (.mk [] [0, 0, 3, 7, 0, 0, 48, 112, 240, 511, 0, 0, 3072, 8191, 16383])))) (.nd))))) (.nd)))
theorem e45 (k : Nat) (y : Tup h45) : exec (P := Tryd.prog) D (lk rowsL) [C44 k] k (bodyOf Tryd.f45) n45 (fnE Tryd.f45 A45 [] (inOf A45 (ofTup h45 y))) (fnSt [] (inOf A45 (ofTup h45 y))) (leafR D (fnE Tryd.f45 A45 [] (inOf A45 (ofTup h45 y))) Tryd.f45.results.toList (R45.map (·.h)) R45) = F45 k y := by kernel_rfl
noncomputable def C45 (k : Nat) : Con Tryd.prog := ⟨45, Tryd.f45, Tryd.func45, by kernel_rfl, by kernel_rfl, A45, h45, [], R45, fun y => F45 k y, fun y r h => con_ok good mixed (c := bodyOf Tryd.f45) Tryd.func45 (by kernel_rfl) n45 y ((e45 k y).trans h)⟩
noncomputable def L40_8 (k : Nat) (x1 : (List (ByteArray × Bool × ByteArray))) (z8 : (Int × (List ByteArray))) : Option ((Int × (List ByteArray)) ⊕ (List ByteArray)) :=
cond (decide (z8.1 < (x1.length : Int))) (
(ix x1 z8.1).bind fun a9 =>
grd (decide ((z8.2.length + [a9.1].length) * 16 ≤ 140737488355328)) <|
some (.inl ((IntKind.wrap .i64 (z8.1 + 1)), (z8.2 ++ [a9.1])))) (
some (.inr z8.2))
noncomputable def F40 (k : Nat) (x1 : (List (ByteArray × Bool × ByteArray))) : Option (List ByteArray) :=
(loopN (L40_8 k x1) k (0, ([] : List ByteArray))).bind fun y10 => 
(F45 k y10).bind fun y11 => 
some y11
def A40 : CTpl := ⟨[.fz .u (.str (.bool (.str .nil)))], []⟩
def h40 : List HTy := [.tl (.str (.bool (.str .nil)))]
def R40 : List RTpl := [⟨.sl .u 500000, [(500000, .ar 9 (.str .nil))], [.tl (.str .nil)]⟩]
def n40 : An := .sq (.nd) (.sq (.nd) (.sq (.sq (.nd) (.lp [0] [] ⟨[(3, .sl .n 300400), (4, .i .i64)], [(300400, .ar 9 (.str .nil))]⟩ [.ti, .tl (.str .nil)] [(2, ⟨[(3, .sl .n 300425)], [(300425, .ar 9 (.str .nil))]⟩)] [[.tl (.str .nil)]] (.nd))) (.sq (.fr [(1, 300425)]) (.nd))))
theorem e40 (k : Nat) (y : Tup h40) : exec (P := Tryd.prog) D (lk rowsL) [C45 k] k (bodyOf Tryd.f40) n40 (fnE Tryd.f40 A40 [] (inOf A40 (ofTup h40 y))) (fnSt [] (inOf A40 (ofTup h40 y))) (leafR D (fnE Tryd.f40 A40 [] (inOf A40 (ofTup h40 y))) Tryd.f40.results.toList (R40.map (·.h)) R40) = F40 k y := by kernel_rfl
noncomputable def C40 (k : Nat) : Con Tryd.prog := ⟨40, Tryd.f40, Tryd.func40, by kernel_rfl, by kernel_rfl, A40, h40, [], R40, fun y => F40 k y, fun y r h => con_ok good mixed (c := bodyOf Tryd.f40) Tryd.func40 (by kernel_rfl) n40 y ((e40 k y).trans h)⟩
noncomputable def L10_6 (k : Nat) (x1 : (List (ByteArray × Bool × ByteArray))) (x2 : ByteArray) (z13 : (Int × ByteArray × ByteArray)) : Option ((Int × ByteArray × ByteArray) ⊕ ((ByteArray × Bool × ByteArray) ⊕ (ByteArray × ByteArray))) :=
cond (decide (0 ≤ z13.1)) (
(ix x1 z13.1).bind fun a14 =>
cond (a14.1.toList == x2.toList) (
(ix x1 z13.1).bind fun a15 =>
some (.inr (.inl (a15.1, a15.2.1, a15.2.2)))) (
some (.inl ((IntKind.wrap .i64 (z13.1 - 1)), z13.2.1, z13.2.2)))) (
some (.inr (.inr (z13.2.1, z13.2.2))))
noncomputable def F10 (k : Nat) (x1 : (List (ByteArray × Bool × ByteArray))) (x2 : ByteArray) : Option (ByteArray × Bool × ByteArray × Bool) :=
(loopN (L10_6 k x1 x2) k ((IntKind.wrap .i64 ((x1.length : Int) - 1)), ByteArray.empty, ByteArray.empty)).bind fun y16 => 
sel (fun y17 =>
some (y17.1, y17.2.1, y17.2.2, true)) (fun y18 =>
some (ByteArray.empty, false, ByteArray.empty, false)) y16
def A10 : CTpl := ⟨[.fz .u (.str (.bool (.str .nil))), .s], []⟩
def h10 : List HTy := [.tl (.str (.bool (.str .nil))), .ts]
def R10 : List RTpl := [⟨.tp [.ag [.s, .b, .s], .b], [], [.ts, .tb, .ts, .tb]⟩]
def n10 : An := .sq (.nd) (.sq (.sq (.nd) (.lp [0, 1, 4] [] ⟨[(6, .i .i64)], [(4, .bx 31 [.s, .lb false, .s])]⟩ [.ti, .ts, .ts] [(1, ⟨[(5, .lb true)], [(4, .bx 31 [.s, .b, .s])]⟩), (2, ⟨[], [(4, .bx 31 [.s, .lb false, .s])]⟩)] [[.ts, .tb, .ts], [.ts, .ts]] (.nd))) (.nd))
theorem e10 (k : Nat) (y : Tup h10) : exec (P := Tryd.prog) D (lk rowsL) [] k (bodyOf Tryd.f10) n10 (fnE Tryd.f10 A10 [] (inOf A10 (ofTup h10 y))) (fnSt [] (inOf A10 (ofTup h10 y))) (leafR D (fnE Tryd.f10 A10 [] (inOf A10 (ofTup h10 y))) Tryd.f10.results.toList (R10.map (·.h)) R10) = F10 k y.1 y.2 := by kernel_rfl
noncomputable def C10 (k : Nat) : Con Tryd.prog := ⟨10, Tryd.f10, Tryd.func10, by kernel_rfl, by kernel_rfl, A10, h10, [], R10, fun y => F10 k y.1 y.2, fun y r h => con_ok good mixed (c := bodyOf Tryd.f10) Tryd.func10 (by kernel_rfl) n10 y ((e10 k y).trans h)⟩
noncomputable def L27_10 (k : Nat) (x1 : (List (ByteArray × Bool × ByteArray))) (y2 : (List ByteArray)) (z31 : (Int × (List (ByteArray × Bool × ByteArray)))) : Option ((Int × (List (ByteArray × Bool × ByteArray))) ⊕ (List (ByteArray × Bool × ByteArray))) :=
cond (decide (z31.1 < (y2.length : Int))) (
(ix y2 z31.1).bind fun a32 =>
(y2[z31.1.toNat]?).bind fun a33 =>
(F10 k x1 a33).bind fun y34 => 
((cond y34.2.1 (
some (y34.1, y34.2.1, (⟨#[]⟩ : ByteArray))) (
some (y34.1, y34.2.1, y34.2.2.1)) : Option (ByteArray × Bool × ByteArray))).bind fun y35 => 
grd (decide ((z31.2.length + [(y35.1, y35.2.1, y35.2.2)].length) * 40 ≤ 140737488355328)) <|
some (.inl ((IntKind.wrap .i64 (z31.1 + 1)), (z31.2 ++ [(y35.1, y35.2.1, y35.2.2)])))) (
some (.inr z31.2))
noncomputable def F27 (k : Nat) (x1 : (List (ByteArray × Bool × ByteArray))) : Option (List (ByteArray × Bool × ByteArray)) :=
(F40 k x1).bind fun y2 => 
(loopN (L27_10 k x1 y2) k (0, ([] : List (ByteArray × Bool × ByteArray)))).bind fun y36 => 
some y36
def A27 : CTpl := ⟨[.fz .u (.str (.bool (.str .nil)))], []⟩
def h27 : List HTy := [.tl (.str (.bool (.str .nil)))]
def R27 : List RTpl := [⟨.sl .u 500000, [(500000, .ar 31 (.str (.bool (.str .nil))))], [.tl (.str (.bool (.str .nil)))]⟩]
def n27 : An := .sq (.nd) (.sq (.nd) (.sq (.nd) (.sq (.sq (.nd) (.lp [0, 3] [400900] ⟨[(4, .sl .n 300500), (5, .i .i64)], [(300500, .ar 31 (.str (.bool (.str .nil))))]⟩ [.ti, .tl (.str (.bool (.str .nil)))] [(2, ⟨[(4, .sl .n 300525)], [(300525, .ar 31 (.str (.bool (.str .nil))))]⟩)] [[.tl (.str (.bool (.str .nil)))]] (.sq (.nd) (.sq (.sq (.nd) (.jn [4, 5, 6] [300500] [(0, ⟨[], [(6, .bx 31 [.s, .b, .s])]⟩)] [[.ts, .tb, .ts]] (.nd) (.nd))) (.nd))))) (.nd))))
theorem e27 (k : Nat) (y : Tup h27) : exec (P := Tryd.prog) D (lk rowsL) [C40 k, C10 k] k (bodyOf Tryd.f27) n27 (fnE Tryd.f27 A27 [] (inOf A27 (ofTup h27 y))) (fnSt [] (inOf A27 (ofTup h27 y))) (leafR D (fnE Tryd.f27 A27 [] (inOf A27 (ofTup h27 y))) Tryd.f27.results.toList (R27.map (·.h)) R27) = F27 k y := by kernel_rfl
noncomputable def C27 (k : Nat) : Con Tryd.prog := ⟨27, Tryd.f27, Tryd.func27, by kernel_rfl, by kernel_rfl, A27, h27, [], R27, fun y => F27 k y, fun y r h => con_ok good mixed (c := bodyOf Tryd.f27) Tryd.func27 (by kernel_rfl) n27 y ((e27 k y).trans h)⟩
noncomputable def L11_8 (k : Nat) (x1 : (List (Int × Bool × ByteArray))) (x2 : Int) (z55 : (Int × (List (ByteArray × Bool × ByteArray)))) : Option ((Int × (List (ByteArray × Bool × ByteArray))) ⊕ (List (ByteArray × Bool × ByteArray))) :=
((cond (decide (z55.1 < (x1.length : Int))) (
some (decide (z55.1 < x2))) (
some false) : Option Bool)).bind fun y56 => 
cond y56 (
(ix x1 z55.1).bind fun a57 =>
(F9 k a57.1).bind fun y58 => 
(ix x1 z55.1).bind fun a59 =>
((cond (!a59.2.1) (
(ix x1 z55.1).bind fun a60 =>
(ix x1 z55.1).bind fun a61 =>
(F26 k a60.2.2 (IntKind.wrap .i64 (a61.1.tdiv 12))).bind fun y62 => 
some (y58, a59.2.1, y62)) (
some (y58, a59.2.1, ByteArray.empty)) : Option (ByteArray × Bool × ByteArray))).bind fun y63 => 
grd (decide ((z55.2.length + [(y63.1, y63.2.1, y63.2.2)].length) * 40 ≤ 140737488355328)) <|
some (.inl ((IntKind.wrap .i64 (z55.1 + 1)), (z55.2 ++ [(y63.1, y63.2.1, y63.2.2)])))) (
some (.inr z55.2))
noncomputable def F11 (k : Nat) (x1 : (List (Int × Bool × ByteArray))) (x2 : Int) : Option (List (ByteArray × Bool × ByteArray)) :=
(loopN (L11_8 k x1 x2) k (0, ([] : List (ByteArray × Bool × ByteArray)))).bind fun y64 => 
((cond ((y64.length : Int) == 0) (
some [((⟨#[97]⟩ : ByteArray), false, (⟨#[49]⟩ : ByteArray))]) (
some y64) : Option (List (ByteArray × Bool × ByteArray)))).bind fun y65 => 
(F27 k y65).bind fun y66 => 
some y66
def A11 : CTpl := ⟨[.fz .u (.int .i64 (.bool (.str .nil))), .i .i64], []⟩
def h11 : List HTy := [.tl (.int .i64 (.bool (.str .nil))), .ti]
def R11 : List RTpl := [⟨.sl .u 500000, [(500000, .ar 31 (.str (.bool (.str .nil))))], [.tl (.str (.bool (.str .nil)))]⟩]
def n11 : An := .sq (.nd) (.sq (.nd) (.sq (.sq (.nd) (.lp [0, 1] [] ⟨[(5, .sl .n 300400), (6, .i .i64)], [(300400, .ar 31 (.str (.bool (.str .nil))))]⟩ [.ti, .tl (.str (.bool (.str .nil)))] [(2, ⟨[(5, .sl .n 300425)], [(300425, .ar 31 (.str (.bool (.str .nil))))]⟩)] [[.tl (.str (.bool (.str .nil)))]] (.sq (.jn [5, 6] [300400] [(0, ⟨[(16, .b)], []⟩)] [[.tb]] (.nd) (.nd)) (.sq (.sq (.mk [] [0, 0, 3, 7, 15, 31, 0, 0, 192, 448, 960, 2047, 0, 8191]) (.jn [5, 6, 7] [300400] [(0, ⟨[], [(7, .bx 31 [.s, .b, .s])]⟩)] [[.ts, .tb, .ts]] (.sq (.nd) (.sq (.mk [] [0, 0, 3, 7, 15, 0, 0, 96, 224, 480, 992, 2047, 4095, 8191]) (.nd))) (.nd))) (.nd))))) (.jn [] [] [(0, ⟨[(5, .sl .u 301350)], [(301350, .ar 31 (.str (.bool (.str .nil))))]⟩)] [[.tl (.str (.bool (.str .nil)))]] (.nd) (.sq (.fr [(1, 301350)]) (.nd)))))
theorem e11 (k : Nat) (y : Tup h11) : exec (P := Tryd.prog) D (lk rowsL) [C9 k, C26 k, C27 k] k (bodyOf Tryd.f11) n11 (fnE Tryd.f11 A11 [] (inOf A11 (ofTup h11 y))) (fnSt [] (inOf A11 (ofTup h11 y))) (leafR D (fnE Tryd.f11 A11 [] (inOf A11 (ofTup h11 y))) Tryd.f11.results.toList (R11.map (·.h)) R11) = F11 k y.1 y.2 := by kernel_rfl
noncomputable def C11 (k : Nat) : Con Tryd.prog := ⟨11, Tryd.f11, Tryd.func11, by kernel_rfl, by kernel_rfl, A11, h11, [], R11, fun y => F11 k y.1 y.2, fun y r h => con_ok good mixed (c := bodyOf Tryd.f11) Tryd.func11 (by kernel_rfl) n11 y ((e11 k y).trans h)⟩
noncomputable def L18_17 (k : Nat) (x1 : Int) (x3 : Int) (x4 : (List (ByteArray × Bool × ByteArray))) (z8 : (Int × (List (ByteArray × (ByteArray × Int × Int))))) : Option ((Int × (List (ByteArray × (ByteArray × Int × Int)))) ⊕ (List (ByteArray × (ByteArray × Int × Int)))) :=
cond (decide (z8.1 < (x4.length : Int))) (
(((ix x4 z8.1).bind fun a9 =>
cond a9.2.1 (
some (mdel sEq z8.2 a9.1)) (
some (mset sEq z8.2 a9.1 (a9.1, x1, x3))) : Option (List (ByteArray × (ByteArray × Int × Int))))).bind fun y10 => 
some (.inl ((IntKind.wrap .i64 (z8.1 + 1)), y10))) (
some (.inr z8.2))
noncomputable def F18 (k : Nat) (x1 : Int) (x2 : Int) (x3 : Int) (x4 : (List (ByteArray × Bool × ByteArray))) (x5 : (List (ByteArray × (ByteArray × Int × Int)))) : Option (List (ByteArray × (ByteArray × Int × Int))) :=
(loopN (L18_17 k x1 x3 x4) k (0, x5)).bind fun y11 => 
some y11
def A18 : CTpl := ⟨[.pt 1000000 0, .ag [.i .u32, .i .u32, .i .u32, .fz .u (.str (.bool (.str .nil)))]], [(1000000, .bx 72 [.mp 1000001]), (1000001, .mp ⟨.s, true, (.str (.int .u32 (.int .u32 .nil)))⟩)]⟩
def h18 : List HTy := [.ti, .ti, .ti, .tl (.str (.bool (.str .nil))), .tm ⟨.s, true, (.str (.int .u32 (.int .u32 .nil)))⟩]
def R18 : List RTpl := [⟨.tp [], [(1000001, .mp ⟨.s, true, (.str (.int .u32 (.int .u32 .nil)))⟩)], [.tm ⟨.s, true, (.str (.int .u32 (.int .u32 .nil)))⟩]⟩]
def n18 : An := .sq (.nd) (.sq (.nd) (.sq (.nd) (.sq (.nd) (.lp [0, 3, 18, 19] [3] ⟨[(20, .i .i64)], [(1000001, .mp ⟨.s, true, (.str (.int .u32 (.int .u32 .nil)))⟩)]⟩ [.ti, .tm ⟨.s, true, (.str (.int .u32 (.int .u32 .nil)))⟩] [(2, ⟨[], [(1000001, .mp ⟨.s, true, (.str (.int .u32 (.int .u32 .nil)))⟩)]⟩)] [[.tm ⟨.s, true, (.str (.int .u32 (.int .u32 .nil)))⟩]] (.sq (.nd) (.sq (.nd) (.jn [20] [] [(0, ⟨[], [(1000001, .mp ⟨.s, true, (.str (.int .u32 (.int .u32 .nil)))⟩)]⟩)] [[.tm ⟨.s, true, (.str (.int .u32 (.int .u32 .nil)))⟩]] (.sq (.nd) (.sq (.nd) (.sq (.mk [] [0, 1, 3, 7, 0, 16, 63]) (.mk [] [0, 1, 3, 7, 0, 16, 0, 64, 0, 256, 0, 1024, 4032, 8191])))) (.nd))))))))
theorem e18 (k : Nat) (y : Tup h18) : exec (P := Tryd.prog) D (lk rowsL) [] k (bodyOf Tryd.f18) n18 (fnE Tryd.f18 A18 [1000000] (inOf A18 (ofTup h18 y))) (fnSt [1000000] (inOf A18 (ofTup h18 y))) (leafR D (fnE Tryd.f18 A18 [1000000] (inOf A18 (ofTup h18 y))) Tryd.f18.results.toList (R18.map (·.h)) R18) = F18 k y.1 y.2.1 y.2.2.1 y.2.2.2.1 y.2.2.2.2 := by kernel_rfl
noncomputable def C18 (k : Nat) : Con Tryd.prog := ⟨18, Tryd.f18, Tryd.func18, by kernel_rfl, by kernel_rfl, A18, h18, [1000000], R18, fun y => F18 k y.1 y.2.1 y.2.2.1 y.2.2.2.1 y.2.2.2.2, fun y r h => con_ok good mixed (c := bodyOf Tryd.f18) Tryd.func18 (by kernel_rfl) n18 y ((e18 k y).trans h)⟩
noncomputable def L7_16 (k : Nat) (x1 : (List (List (Int × Bool × ByteArray)))) (z30 : (Int × (List (ByteArray × (ByteArray × Int × Int))))) : Option ((Int × (List (ByteArray × (ByteArray × Int × Int)))) ⊕ (List (ByteArray × (ByteArray × Int × Int)))) :=
((cond (decide (z30.1 < (x1.length : Int))) (
some (decide (z30.1 < 20))) (
some false) : Option Bool)).bind fun y31 => 
cond y31 (
(ix x1 z30.1).bind fun a32 =>
(F11 k a32 5).bind fun y33 => 
(F18 k (IntKind.wrap .u32 (IntKind.wrap .i64 (z30.1 + 1))) 0 (IntKind.wrap .u32 (IntKind.wrap .i64 (z30.1 + 1))) y33 z30.2).bind fun y34 => 
some (.inl ((IntKind.wrap .i64 (z30.1 + 1)), y34))) (
some (.inr z30.2))
noncomputable def F7 (k : Nat) (x1 : (List (List (Int × Bool × ByteArray)))) : Option (List (ByteArray × (ByteArray × Int × Int))) :=
(F17 k).bind fun y2 => 
(loopN (L7_16 k x1) k (0, y2)).bind fun y35 => 
some y35
def A7 : CTpl := ⟨[.fz .u (.sl (.int .i64 (.bool (.str .nil))) .nil)], []⟩
def h7 : List HTy := [.tl (.sl (.int .i64 (.bool (.str .nil))) .nil)]
def R7 : List RTpl := [⟨.pt 500000 0, [(500000, .bx 72 [.mp 500001]), (500001, .mp ⟨.s, true, (.str (.int .u32 (.int .u32 .nil)))⟩)], [.tm ⟨.s, true, (.str (.int .u32 (.int .u32 .nil)))⟩]⟩]
def n7 : An := .sq (.nd) (.sq (.nd) (.sq (.nd) (.sq (.sq (.nd) (.lp [0, 3] [] ⟨[(4, .i .i64)], [(400500, .bx 72 [.mp 400501]), (400501, .mp ⟨.s, true, (.str (.int .u32 (.int .u32 .nil)))⟩)]⟩ [.ti, .tm ⟨.s, true, (.str (.int .u32 (.int .u32 .nil)))⟩] [(2, ⟨[], [(400500, .bx 72 [.mp 400501]), (400501, .mp ⟨.s, true, (.str (.int .u32 (.int .u32 .nil)))⟩)]⟩)] [[.tm ⟨.s, true, (.str (.int .u32 (.int .u32 .nil)))⟩]] (.sq (.jn [4] [400500, 400501] [(0, ⟨[(15, .b)], []⟩)] [[.tb]] (.nd) (.nd)) (.sq (.fr [(13, 402900)]) (.nd))))) (.nd))))
theorem e7 (k : Nat) (y : Tup h7) : exec (P := Tryd.prog) D (lk rowsL) [C17 k, C11 k, C18 k] k (bodyOf Tryd.f7) n7 (fnE Tryd.f7 A7 [] (inOf A7 (ofTup h7 y))) (fnSt [] (inOf A7 (ofTup h7 y))) (leafR D (fnE Tryd.f7 A7 [] (inOf A7 (ofTup h7 y))) Tryd.f7.results.toList (R7.map (·.h)) R7) = F7 k y := by kernel_rfl
noncomputable def C7 (k : Nat) : Con Tryd.prog := ⟨7, Tryd.f7, Tryd.func7, by kernel_rfl, by kernel_rfl, A7, h7, [], R7, fun y => F7 k y, fun y r h => con_ok good mixed (c := bodyOf Tryd.f7) Tryd.func7 (by kernel_rfl) n7 y ((e7 k y).trans h)⟩
noncomputable def L24_8 (k : Nat) (x1 : (List ByteArray)) (z8 : (Int × (List (ByteArray × Bool × ByteArray)))) : Option ((Int × (List (ByteArray × Bool × ByteArray))) ⊕ (List (ByteArray × Bool × ByteArray))) :=
cond (decide (z8.1 < (x1.length : Int))) (
(ix x1 z8.1).bind fun a9 =>
grd (decide ((z8.2.length + [(a9, false, (⟨#[118]⟩ : ByteArray))].length) * 40 ≤ 140737488355328)) <|
some (.inl ((IntKind.wrap .i64 (z8.1 + 1)), (z8.2 ++ [(a9, false, (⟨#[118]⟩ : ByteArray))])))) (
some (.inr z8.2))
noncomputable def F24 (k : Nat) (x1 : (List ByteArray)) : Option (List (ByteArray × Bool × ByteArray)) :=
(loopN (L24_8 k x1) k (0, ([] : List (ByteArray × Bool × ByteArray)))).bind fun y10 => 
some y10
def A24 : CTpl := ⟨[.fz .u (.str .nil)], []⟩
def h24 : List HTy := [.tl (.str .nil)]
def R24 : List RTpl := [⟨.sl .u 500000, [(500000, .ar 31 (.str (.bool (.str .nil))))], [.tl (.str (.bool (.str .nil)))]⟩]
def n24 : An := .sq (.nd) (.sq (.nd) (.sq (.sq (.nd) (.lp [0] [] ⟨[(3, .sl .n 300400), (4, .i .i64)], [(300400, .ar 31 (.str (.bool (.str .nil))))]⟩ [.ti, .tl (.str (.bool (.str .nil)))] [(2, ⟨[(3, .sl .n 300425)], [(300425, .ar 31 (.str (.bool (.str .nil))))]⟩)] [[.tl (.str (.bool (.str .nil)))]] (.nd))) (.nd)))
theorem e24 (k : Nat) (y : Tup h24) : exec (P := Tryd.prog) D (lk rowsL) [] k (bodyOf Tryd.f24) n24 (fnE Tryd.f24 A24 [] (inOf A24 (ofTup h24 y))) (fnSt [] (inOf A24 (ofTup h24 y))) (leafR D (fnE Tryd.f24 A24 [] (inOf A24 (ofTup h24 y))) Tryd.f24.results.toList (R24.map (·.h)) R24) = F24 k y := by kernel_rfl
noncomputable def C24 (k : Nat) : Con Tryd.prog := ⟨24, Tryd.f24, Tryd.func24, by kernel_rfl, by kernel_rfl, A24, h24, [], R24, fun y => F24 k y, fun y r h => con_ok good mixed (c := bodyOf Tryd.f24) Tryd.func24 (by kernel_rfl) n24 y ((e24 k y).trans h)⟩
noncomputable def F12 (k : Nat) (x1 : ByteArray) (x2 : (List (ByteArray × (ByteArray × Int × Int)))) : Option (ByteArray × Int × Int × Bool) :=
(some ((mget sEq x2 x1).getD (ByteArray.empty, 0, 0), (mget sEq x2 x1).isSome)).bind fun a1 =>
some (a1.1.1, a1.1.2.1, a1.1.2.2, a1.2)
def A12 : CTpl := ⟨[.pt 1000000 0, .s], [(1000000, .bx 72 [.mp 1000001]), (1000001, .mp ⟨.s, true, (.str (.int .u32 (.int .u32 .nil)))⟩)]⟩
def h12 : List HTy := [.ts, .tm ⟨.s, true, (.str (.int .u32 (.int .u32 .nil)))⟩]
def R12 : List RTpl := [⟨.tp [.ag [.s, .i .u32, .i .u32], .b], [], [.ts, .ti, .ti, .tb]⟩]
def n12 : An := .nd
theorem e12 (k : Nat) (y : Tup h12) : exec (P := Tryd.prog) D (lk rowsL) [] k (bodyOf Tryd.f12) n12 (fnE Tryd.f12 A12 [1000000, 1000001] (inOf A12 (ofTup h12 y))) (fnSt [1000000, 1000001] (inOf A12 (ofTup h12 y))) (leafR D (fnE Tryd.f12 A12 [1000000, 1000001] (inOf A12 (ofTup h12 y))) Tryd.f12.results.toList (R12.map (·.h)) R12) = F12 k y.1 y.2 := by kernel_rfl
noncomputable def C12 (k : Nat) : Con Tryd.prog := ⟨12, Tryd.f12, Tryd.func12, by kernel_rfl, by kernel_rfl, A12, h12, [1000000, 1000001], R12, fun y => F12 k y.1 y.2, fun y r h => con_ok good mixed (c := bodyOf Tryd.f12) Tryd.func12 (by kernel_rfl) n12 y ((e12 k y).trans h)⟩
noncomputable def F15 (k : Nat) (x1 : (List (ByteArray × (ByteArray × Int × Int)))) : Option Int :=
some (x1.length : Int)
def A15 : CTpl := ⟨[.pt 1000000 0], [(1000000, .bx 72 [.mp 1000001]), (1000001, .mp ⟨.s, true, (.str (.int .u32 (.int .u32 .nil)))⟩)]⟩
def h15 : List HTy := [.tm ⟨.s, true, (.str (.int .u32 (.int .u32 .nil)))⟩]
def R15 : List RTpl := [⟨.i .i64, [], [.ti]⟩]
def n15 : An := .nd
theorem e15 (k : Nat) (y : Tup h15) : exec (P := Tryd.prog) D (lk rowsL) [] k (bodyOf Tryd.f15) n15 (fnE Tryd.f15 A15 [1000000, 1000001] (inOf A15 (ofTup h15 y))) (fnSt [1000000, 1000001] (inOf A15 (ofTup h15 y))) (leafR D (fnE Tryd.f15 A15 [1000000, 1000001] (inOf A15 (ofTup h15 y))) Tryd.f15.results.toList (R15.map (·.h)) R15) = F15 k y := by kernel_rfl
noncomputable def C15 (k : Nat) : Con Tryd.prog := ⟨15, Tryd.f15, Tryd.func15, by kernel_rfl, by kernel_rfl, A15, h15, [1000000, 1000001], R15, fun y => F15 k y, fun y r h => con_ok good mixed (c := bodyOf Tryd.f15) Tryd.func15 (by kernel_rfl) n15 y ((e15 k y).trans h)⟩
noncomputable def L16_11 (k : Nat) (x1 : Int) {R : Type} (z11 : (Int × ((List (ByteArray × (ByteArray × Int × Int))) × (List (ByteArray × (ByteArray × Int × Int)))))) (Kin : (Int × ((List (ByteArray × (ByteArray × Int × Int))) × (List (ByteArray × (ByteArray × Int × Int))))) → Option R) (Kout : (Int × (List (ByteArray × (ByteArray × Int × Int)))) → Option R) : Option R :=
cond z11.2.2.isEmpty (
Kout (z11.1, z11.2.1)) (
anyL z11.2.2 fun j12 => fun a13 =>
cond (decide (a13.2.2.1 ≤ x1)) (
Kin ((mx z11.1 a13.2.2.2), (z11.2.1, (List.eraseIdx z11.2.2 j12)))) (
Kin (z11.1, (z11.2.1, (List.eraseIdx z11.2.2 j12)))))
noncomputable def F16 (k : Nat) (x1 : Int) (x2 : (List (ByteArray × (ByteArray × Int × Int)))) : Option (Int × (List (ByteArray × (ByteArray × Int × Int)))) :=
loopC (L16_11 k x1) k (0, (x2, x2)) fun y14 => 
some (y14.1, y14.2)
def A16 : CTpl := ⟨[.pt 1000000 0, .i .u32], [(1000000, .bx 72 [.mp 1000001]), (1000001, .mp ⟨.s, true, (.str (.int .u32 (.int .u32 .nil)))⟩)]⟩
def h16 : List HTy := [.ti, .tm ⟨.s, true, (.str (.int .u32 (.int .u32 .nil)))⟩]
def R16 : List RTpl := [⟨.i .u32, [(1000001, .mp ⟨.s, true, (.str (.int .u32 (.int .u32 .nil)))⟩)], [.ti, .tm ⟨.s, true, (.str (.int .u32 (.int .u32 .nil)))⟩]⟩]
def n16 : An := .sq (.nd) (.sq (.nd) (.sq (.sq (.nd) (.sq (.sq (.nd) (.lc [1, 14] [14] ⟨[(5, .i .u32)], [(1000001, .mq ⟨.s, true, (.str (.int .u32 (.int .u32 .nil)))⟩ 14)]⟩ [.ti, .tq ⟨.s, true, (.str (.int .u32 (.int .u32 .nil)))⟩] [(2, ⟨[(5, .i .u32)], [(1000001, .mp ⟨.s, true, (.str (.int .u32 (.int .u32 .nil)))⟩)]⟩)] [[.ti, .tm ⟨.s, true, (.str (.int .u32 (.int .u32 .nil)))⟩]] (.nd))) (.nd))) (.nd)))
theorem e16 (k : Nat) (y : Tup h16) : exec (P := Tryd.prog) D (lk rowsL) [] k (bodyOf Tryd.f16) n16 (fnE Tryd.f16 A16 [1000000] (inOf A16 (ofTup h16 y))) (fnSt [1000000] (inOf A16 (ofTup h16 y))) (leafR D (fnE Tryd.f16 A16 [1000000] (inOf A16 (ofTup h16 y))) Tryd.f16.results.toList (R16.map (·.h)) R16) = F16 k y.1 y.2 := by kernel_rfl
noncomputable def C16 (k : Nat) : Con Tryd.prog := ⟨16, Tryd.f16, Tryd.func16, by kernel_rfl, by kernel_rfl, A16, h16, [1000000], R16, fun y => F16 k y.1 y.2, fun y r h => con_ok good mixed (c := bodyOf Tryd.f16) Tryd.func16 (by kernel_rfl) n16 y ((e16 k y).trans h)⟩
noncomputable def F8 (k : Nat) : Option Bool :=
(F17 k).bind fun y2 => 
(F24 k [(⟨#[97]⟩ : ByteArray), (⟨#[98]⟩ : ByteArray)]).bind fun y5 => 
(F18 k 3 0 3 y5 y2).bind fun y6 => 
(F12 k (⟨#[97]⟩ : ByteArray) y6).bind fun y8 => 
(F15 k y6).bind fun y9 => 
cond (y9 == 2) (
cond y8.2.2.2 (
cond ((y8.1.toList == (⟨#[97]⟩ : ByteArray).toList) && ((y8.2.1 == 3) && ((y8.2.2.1 == 3) && true))) (
(F16 k 9 y6).bind fun y10 => 
some (y10.1 == 3)) (
some false)) (
some false)) (
some false)
def A8 : CTpl := ⟨[], []⟩
def h8 : List HTy := []
def R8 : List RTpl := [⟨.b, [], [.tb]⟩]
def n8 : An := .sq (.nd) (.sq (.nd) (.sq (.nd) (.sq (.fr [(2, 8), (4, 400900)]) (.nd))))
theorem e8 (k : Nat) (y : Tup h8) : exec (P := Tryd.prog) D (lk rowsL) [C17 k, C24 k, C18 k, C12 k, C15 k, C16 k] k (bodyOf Tryd.f8) n8 (fnE Tryd.f8 A8 [] (inOf A8 (ofTup h8 y))) (fnSt [] (inOf A8 (ofTup h8 y))) (leafR D (fnE Tryd.f8 A8 [] (inOf A8 (ofTup h8 y))) Tryd.f8.results.toList (R8.map (·.h)) R8) = F8 k := by kernel_rfl
noncomputable def C8 (k : Nat) : Con Tryd.prog := ⟨8, Tryd.f8, Tryd.func8, by kernel_rfl, by kernel_rfl, A8, h8, [], R8, fun y => F8 k, fun y r h => con_ok good mixed (c := bodyOf Tryd.f8) Tryd.func8 (by kernel_rfl) n8 y ((e8 k y).trans h)⟩
noncomputable def F29 (k : Nat) (x1 : ByteArray) (x2 : Int) (x3 : Int) (x4 : Int) : Option Bool :=
some (x2 == x4)
def A29 : CTpl := ⟨[.ag [.s, .i .u32, .i .u32], .pt 1000000 0], [(1000000, .bx 23 [.i .u32])]⟩
def h29 : List HTy := [.ts, .ti, .ti, .ti]
def R29 : List RTpl := [⟨.b, [], [.tb]⟩]
def n29 : An := .nd
theorem e29 (k : Nat) (y : Tup h29) : exec (P := Tryd.prog) D (lk rowsL) [] k (bodyOf Tryd.f29) n29 (fnE Tryd.f29 A29 [1000000] (inOf A29 (ofTup h29 y))) (fnSt [1000000] (inOf A29 (ofTup h29 y))) (leafR D (fnE Tryd.f29 A29 [1000000] (inOf A29 (ofTup h29 y))) Tryd.f29.results.toList (R29.map (·.h)) R29) = F29 k y.1 y.2.1 y.2.2.1 y.2.2.2 := by kernel_rfl
noncomputable def C29 (k : Nat) : Con Tryd.prog := ⟨29, Tryd.f29, Tryd.func29, by kernel_rfl, by kernel_rfl, A29, h29, [1000000], R29, fun y => F29 k y.1 y.2.1 y.2.2.1 y.2.2.2, fun y r h => con_ok good mixed (c := bodyOf Tryd.f29) Tryd.func29 (by kernel_rfl) n29 y ((e29 k y).trans h)⟩
noncomputable def F46 (k : Nat) (x1 : (List ByteArray)) : Option (List ByteArray) :=
nilT x1.isEmpty (
some ([] : List ByteArray)) (
grd (decide ((([] : List ByteArray).length + x1.length) * 16 ≤ 140737488355328)) <|
some (([] : List ByteArray) ++ x1))
def A46 : CTpl := ⟨[.fz .u (.str .nil)], []⟩
def h46 : List HTy := [.tl (.str .nil)]
def R46 : List RTpl := [⟨.sl .u 500000, [(500000, .ar 9 (.str .nil))], [.tl (.str .nil)]⟩]
def n46 : An := .nd
theorem e46 (k : Nat) (y : Tup h46) : exec (P := Tryd.prog) D (lk rowsL) [] k (bodyOf Tryd.f46) n46 (fnE Tryd.f46 A46 [] (inOf A46 (ofTup h46 y))) (fnSt [] (inOf A46 (ofTup h46 y))) (leafR D (fnE Tryd.f46 A46 [] (inOf A46 (ofTup h46 y))) Tryd.f46.results.toList (R46.map (·.h)) R46) = F46 k y := by kernel_rfl
noncomputable def C46 (k : Nat) : Con Tryd.prog := ⟨46, Tryd.f46, Tryd.func46, by kernel_rfl, by kernel_rfl, A46, h46, [], R46, fun y => F46 k y, fun y r h => con_ok good mixed (c := bodyOf Tryd.f46) Tryd.func46 (by kernel_rfl) n46 y ((e46 k y).trans h)⟩
noncomputable def L55_8 (k : Nat) (z3 : (ByteArray × Nat × (List Int))) : Option ((ByteArray × Nat × (List Int)) ⊕ (ByteArray × Nat × (List Int))) :=
cond (decide (z3.2.1 < z3.1.size)) (
grd (decide ((z3.2.2.length + [((Utf8.decode z3.1 z3.2.1).1 : Int)].length) * 4 ≤ 140737488355328)) <|
some (.inl (z3.1, (z3.2.1 + (Utf8.decode z3.1 z3.2.1).2), (z3.2.2 ++ [((Utf8.decode z3.1 z3.2.1).1 : Int)])))) (
some (.inr (z3.1, z3.2.1, z3.2.2)))
noncomputable def F55 (k : Nat) (x1 : ByteArray) : Option (List Int) :=
(loopN (L55_8 k) k (x1, 0, ([] : List Int))).bind fun y4 => 
some y4.2.2
def A55 : CTpl := ⟨[.s], []⟩
def h55 : List HTy := [.ts]
def R55 : List RTpl := [⟨.sl .u 500000, [(500000, .ar 21 (.int .i32 .nil))], [.tl (.int .i32 .nil)]⟩]
def n55 : An := .sq (.nd) (.sq (.nd) (.sq (.sq (.nd) (.lp [7] [] ⟨[(3, .sl .n 300400)], [(7, .si), (300400, .ar 21 (.int .i32 .nil))]⟩ [.ts, .tn, .tl (.int .i32 .nil)] [(2, ⟨[(3, .sl .n 300425)], [(7, .si), (300425, .ar 21 (.int .i32 .nil))]⟩)] [[.ts, .tn, .tl (.int .i32 .nil)]] (.nd))) (.nd)))
theorem e55 (k : Nat) (y : Tup h55) : exec (P := Tryd.prog) D (lk rowsL) [] k (bodyOf Tryd.f55) n55 (fnE Tryd.f55 A55 [] (inOf A55 (ofTup h55 y))) (fnSt [] (inOf A55 (ofTup h55 y))) (leafR D (fnE Tryd.f55 A55 [] (inOf A55 (ofTup h55 y))) Tryd.f55.results.toList (R55.map (·.h)) R55) = F55 k y := by kernel_rfl
noncomputable def C55 (k : Nat) : Con Tryd.prog := ⟨55, Tryd.f55, Tryd.func55, by kernel_rfl, by kernel_rfl, A55, h55, [], R55, fun y => F55 k y, fun y r h => con_ok good mixed (c := bodyOf Tryd.f55) Tryd.func55 (by kernel_rfl) n55 y ((e55 k y).trans h)⟩
noncomputable def F78 (k : Nat) (x1 : Int) : Option Bool :=
some (x1 != x1)
def A78 : CTpl := ⟨[.i .i32], []⟩
def h78 : List HTy := [.ti]
def R78 : List RTpl := [⟨.b, [], [.tb]⟩]
def n78 : An := .nd
theorem e78 (k : Nat) (y : Tup h78) : exec (P := Tryd.prog) D (lk rowsL) [] k (bodyOf Tryd.f78) n78 (fnE Tryd.f78 A78 [] (inOf A78 (ofTup h78 y))) (fnSt [] (inOf A78 (ofTup h78 y))) (leafR D (fnE Tryd.f78 A78 [] (inOf A78 (ofTup h78 y))) Tryd.f78.results.toList (R78.map (·.h)) R78) = F78 k y := by kernel_rfl
noncomputable def C78 (k : Nat) : Con Tryd.prog := ⟨78, Tryd.f78, Tryd.func78, by kernel_rfl, by kernel_rfl, A78, h78, [], R78, fun y => F78 k y, fun y r h => con_ok good mixed (c := bodyOf Tryd.f78) Tryd.func78 (by kernel_rfl) n78 y ((e78 k y).trans h)⟩
noncomputable def F70 (k : Nat) (x1 : Int) (x2 : Int) : Option Int :=
(F78 k x1).bind fun y2 => 
(F78 k x2).bind fun y4 => 
cond y2 (
cond y4 (
some 0) (
some (-1))) (
cond y4 (
some 1) (
cond (decide (x1 < x2)) (
some (-1)) (
cond (decide (x2 < x1)) (
some 1) (
some 0))))
def A70 : CTpl := ⟨[.i .i32, .i .i32], []⟩
def h70 : List HTy := [.ti, .ti]
def R70 : List RTpl := [⟨.i .i64, [], [.ti]⟩]
def n70 : An := .nd
theorem e70 (k : Nat) (y : Tup h70) : exec (P := Tryd.prog) D (lk rowsL) [C78 k] k (bodyOf Tryd.f70) n70 (fnE Tryd.f70 A70 [] (inOf A70 (ofTup h70 y))) (fnSt [] (inOf A70 (ofTup h70 y))) (leafR D (fnE Tryd.f70 A70 [] (inOf A70 (ofTup h70 y))) Tryd.f70.results.toList (R70.map (·.h)) R70) = F70 k y.1 y.2 := by kernel_rfl
noncomputable def C70 (k : Nat) : Con Tryd.prog := ⟨70, Tryd.f70, Tryd.func70, by kernel_rfl, by kernel_rfl, A70, h70, [], R70, fun y => F70 k y.1 y.2, fun y r h => con_ok good mixed (c := bodyOf Tryd.f70) Tryd.func70 (by kernel_rfl) n70 y ((e70 k y).trans h)⟩
noncomputable def L56_6 (k : Nat) (x1 : (List Int)) (x2 : (List Int)) (z27 : Int) : Option (Int ⊕ (Int ⊕ Unit)) :=
cond (decide (z27 < (x1.length : Int))) (
(ix x1 z27).bind fun a28 =>
cond (decide ((x2.length : Int) ≤ z27)) (
some (.inr (.inl 1))) (
(ix x2 z27).bind fun a29 =>
(x2[z27.toNat]?).bind fun a30 =>
(F70 k a28 a30).bind fun y31 => 
cond (y31 != 0) (
some (.inr (.inl y31))) (
some (.inl (IntKind.wrap .i64 (z27 + 1)))))) (
some (.inr (.inr ())))
noncomputable def F56 (k : Nat) (x1 : (List Int)) (x2 : (List Int)) : Option Int :=
(loopN (L56_6 k x1 x2) k 0).bind fun y32 => 
sel (fun y33 =>
some y33) (fun y34 =>
cond (decide ((x1.length : Int) < (x2.length : Int))) (
some (-1)) (
some 0)) y32
def A56 : CTpl := ⟨[.fz .u (.int .i32 .nil), .sl .u 1000000], [(1000000, .ar 21 (.int .i32 .nil))]⟩
def h56 : List HTy := [.tl (.int .i32 .nil), .tl (.int .i32 .nil)]
def R56 : List RTpl := [⟨.i .i64, [], [.ti]⟩]
def n56 : An := .sq (.nd) (.sq (.sq (.nd) (.lp [0, 1, 9, 10] [] ⟨[(11, .i .i64)], []⟩ [.ti] [(1, ⟨[(4, .i .i64)], []⟩), (2, ⟨[], []⟩)] [[.ti], []] (.nd))) (.nd))
theorem e56 (k : Nat) (y : Tup h56) : exec (P := Tryd.prog) D (lk rowsL) [C70 k] k (bodyOf Tryd.f56) n56 (fnE Tryd.f56 A56 [1000000] (inOf A56 (ofTup h56 y))) (fnSt [1000000] (inOf A56 (ofTup h56 y))) (leafR D (fnE Tryd.f56 A56 [1000000] (inOf A56 (ofTup h56 y))) Tryd.f56.results.toList (R56.map (·.h)) R56) = F56 k y.1 y.2 := by kernel_rfl
noncomputable def C56 (k : Nat) : Con Tryd.prog := ⟨56, Tryd.f56, Tryd.func56, by kernel_rfl, by kernel_rfl, A56, h56, [1000000], R56, fun y => F56 k y.1 y.2, fun y r h => con_ok good mixed (c := bodyOf Tryd.f56) Tryd.func56 (by kernel_rfl) n56 y ((e56 k y).trans h)⟩
noncomputable def L56_1_6 (k : Nat) (x1 : (List Int)) (x2 : (List Int)) (z22 : Int) : Option (Int ⊕ (Int ⊕ Unit)) :=
cond (decide (z22 < (x1.length : Int))) (
(ix x1 z22).bind fun a23 =>
cond (decide ((x2.length : Int) ≤ z22)) (
some (.inr (.inl 1))) (
(ix x2 z22).bind fun a24 =>
(F70 k a23 a24).bind fun y25 => 
cond (y25 != 0) (
some (.inr (.inl y25))) (
some (.inl (IntKind.wrap .i64 (z22 + 1)))))) (
some (.inr (.inr ())))
noncomputable def F56_1 (k : Nat) (x1 : (List Int)) (x2 : (List Int)) : Option Int :=
(loopN (L56_1_6 k x1 x2) k 0).bind fun y26 => 
sel (fun y27 =>
some y27) (fun y28 =>
cond (decide ((x1.length : Int) < (x2.length : Int))) (
some (-1)) (
some 0)) y26
def A56_1 : CTpl := ⟨[.fz .u (.int .i32 .nil), .fz .u (.int .i32 .nil)], []⟩
def h56_1 : List HTy := [.tl (.int .i32 .nil), .tl (.int .i32 .nil)]
def R56_1 : List RTpl := [⟨.i .i64, [], [.ti]⟩]
def n56_1 : An := .sq (.nd) (.sq (.sq (.nd) (.lp [0, 1, 9, 10] [] ⟨[(11, .i .i64)], []⟩ [.ti] [(1, ⟨[(4, .i .i64)], []⟩), (2, ⟨[], []⟩)] [[.ti], []] (.nd))) (.nd))
theorem e56_1 (k : Nat) (y : Tup h56_1) : exec (P := Tryd.prog) D (lk rowsL) [C70 k] k (bodyOf Tryd.f56) n56_1 (fnE Tryd.f56 A56_1 [] (inOf A56_1 (ofTup h56_1 y))) (fnSt [] (inOf A56_1 (ofTup h56_1 y))) (leafR D (fnE Tryd.f56 A56_1 [] (inOf A56_1 (ofTup h56_1 y))) Tryd.f56.results.toList (R56_1.map (·.h)) R56_1) = F56_1 k y.1 y.2 := by kernel_rfl
noncomputable def C56_1 (k : Nat) : Con Tryd.prog := ⟨56, Tryd.f56, Tryd.func56, by kernel_rfl, by kernel_rfl, A56_1, h56_1, [], R56_1, fun y => F56_1 k y.1 y.2, fun y r h => con_ok good mixed (c := bodyOf Tryd.f56) Tryd.func56 (by kernel_rfl) n56_1 y ((e56_1 k y).trans h)⟩
noncomputable def F49 (k : Nat) (x1 : ByteArray) (x2 : ByteArray) : Option Int :=
(F55 k x1).bind fun y3 => 
(F55 k x2).bind fun y4 => 
(F56_1 k y3 y4).bind fun y5 => 
some y5
def A49 : CTpl := ⟨[.s, .s], []⟩
def h49 : List HTy := [.ts, .ts]
def R49 : List RTpl := [⟨.i .i64, [], [.ti]⟩]
def n49 : An := .sq (.nd) (.sq (.nd) (.sq (.fr [(2, 400800), (2, 401000)]) (.nd)))
theorem e49 (k : Nat) (y : Tup h49) : exec (P := Tryd.prog) D (lk rowsL) [C55 k, C56_1 k] k (bodyOf Tryd.f49) n49 (fnE Tryd.f49 A49 [] (inOf A49 (ofTup h49 y))) (fnSt [] (inOf A49 (ofTup h49 y))) (leafR D (fnE Tryd.f49 A49 [] (inOf A49 (ofTup h49 y))) Tryd.f49.results.toList (R49.map (·.h)) R49) = F49 k y.1 y.2 := by kernel_rfl
noncomputable def C49 (k : Nat) : Con Tryd.prog := ⟨49, Tryd.f49, Tryd.func49, by kernel_rfl, by kernel_rfl, A49, h49, [], R49, fun y => F49 k y.1 y.2, fun y r h => con_ok good mixed (c := bodyOf Tryd.f49) Tryd.func49 (by kernel_rfl) n49 y ((e49 k y).trans h)⟩
noncomputable def F50 (k : Nat) (x1 : ByteArray) (x2 : ByteArray) : Option Int :=
some (Go.Lib.compareBytes x1.data.toList x2.data.toList)
def A50 : CTpl := ⟨[.s, .s], []⟩
def h50 : List HTy := [.ts, .ts]
def R50 : List RTpl := [⟨.i .i64, [], [.ti]⟩]
def n50 : An := .nd
noncomputable def C50 (k : Nat) : Con Tryd.prog := ⟨50, Tryd.f50, Tryd.func50, by kernel_rfl, by kernel_rfl, A50, h50, [], R50, fun y => F50 k y.1 y.2, fun y r h => by
  have h2 : some (Go.Lib.compareBytes y.1.data.toList y.2.data.toList) = some r := h
  cases h2
  exact CTx.lib (vs := [.string y.1, .string y.2]) rfl (fun _ _ _ => .t _ _ (.sc _ rfl)) fun w _ => (Tryd.strings_Compare y.1 y.2 w).mono fun e w2 g => ⟨g.1, by rw [g.2]; exact Below.refl _ _, fun _ => by rw [g.2]; exact Nat.le_refl _⟩⟩
noncomputable def F48 (k : Nat) (x1 : ByteArray) (x2 : ByteArray) : Option Int :=
(F49 k x1 x2).bind fun y3 => 
cond (y3 != 0) (
some y3) (
(F50 k x1 x2).bind fun y4 => 
some y4)
def A48 : CTpl := ⟨[.s, .s], []⟩
def h48 : List HTy := [.ts, .ts]
def R48 : List RTpl := [⟨.i .i64, [], [.ti]⟩]
def n48 : An := .nd
theorem e48 (k : Nat) (y : Tup h48) : exec (P := Tryd.prog) D (lk rowsL) [C49 k, C50 k] k (bodyOf Tryd.f48) n48 (fnE Tryd.f48 A48 [] (inOf A48 (ofTup h48 y))) (fnSt [] (inOf A48 (ofTup h48 y))) (leafR D (fnE Tryd.f48 A48 [] (inOf A48 (ofTup h48 y))) Tryd.f48.results.toList (R48.map (·.h)) R48) = F48 k y.1 y.2 := by kernel_rfl
noncomputable def C48 (k : Nat) : Con Tryd.prog := ⟨48, Tryd.f48, Tryd.func48, by kernel_rfl, by kernel_rfl, A48, h48, [], R48, fun y => F48 k y.1 y.2, fun y r h => con_ok good mixed (c := bodyOf Tryd.f48) Tryd.func48 (by kernel_rfl) n48 y ((e48 k y).trans h)⟩
noncomputable def F47 (k : Nat) (x1 : (List ByteArray)) : Option (List ByteArray) :=
sortF (F48 k) x1
def A47 : CTpl := ⟨[.sl .u 1000000, .c (.func (.func 48) #[] #[])], [(1000000, .ar 9 (.str .nil))]⟩
def h47 : List HTy := [.tl (.str .nil)]
def R47 : List RTpl := [⟨.tp [], [(1000000, .ar 9 (.str .nil))], [.tl (.str .nil)]⟩]
def n47 : An := .nd
noncomputable def C47 (k : Nat) : Con Tryd.prog := ⟨47, Tryd.f47, Tryd.func47, by kernel_rfl, by kernel_rfl, A47, h47, [], R47, fun y => F47 k y, fun y r h => by
  have h2 : sortF (F48 k) y = some r := h
  exact CTx.sortFunc (ρ := Tryd.laysSlF6_f47_ren) Tryd.laysSlF6_f47 { Tryd.laysSlF6_f47 with } (enters Tryd.func48 (by kernel_rfl) (by kernel_rfl)) (fun a b n g => @Con.ok ⟨true⟩ _ (@C48 ⟨true⟩ k) (a, b) n g) 9 h2⟩
noncomputable def L51_32 (k : Nat) (z156 : (Int × (List ByteArray))) (z161 : (Int × Int × (List ByteArray))) : Option ((Int × Int × (List ByteArray)) ⊕ (Int × (List ByteArray))) :=
cond (decide (z161.2.1 < (((((z156.2.length : Int).toNat) - z156.1.toNat) : Nat) : Int))) (
((grd (decide (0 ≤ z161.2.1 ∧ z161.2.1 < (((((z156.2.length : Int).toNat) - z156.1.toNat) : Nat) : Int))) <|
(z161.2.2[(z156.1.toNat + z161.2.1.toNat)]?).bind fun a162 =>
grd (decide (0 ≤ (IntKind.wrap .i64 (z161.2.1 - 1)) ∧ (IntKind.wrap .i64 (z161.2.1 - 1)) < (((((z156.2.length : Int).toNat) - z156.1.toNat) : Nat) : Int))) <|
(z161.2.2[(z156.1.toNat + ((IntKind.wrap .i64 (z161.2.1 - 1)).toNat))]?).bind fun a163 =>
cond (!(a162.toList == a163.toList)) (
grd (decide (0 ≤ z161.2.1 ∧ z161.2.1 < (((((z156.2.length : Int).toNat) - z156.1.toNat) : Nat) : Int))) <|
(z161.2.2[(z156.1.toNat + z161.2.1.toNat)]?).bind fun a164 =>
(ix z161.2.2 z161.1).bind fun a165 =>
((z161.2.2[z161.1.toNat]?).bind fun a166 => some a164).bind fun a167 =>
some ((IntKind.wrap .i64 (z161.1 + 1)), (z161.2.2.set z161.1.toNat a167))) (
some (z161.1, z161.2.2)) : Option (Int × (List ByteArray)))).bind fun y168 => 
some (.inl (y168.1, (IntKind.wrap .i64 (z161.2.1 + 1)), y168.2))) (
some (.inr (z161.1, z161.2.2)))
noncomputable def L51_14 (k : Nat) (z156 : (Int × (List ByteArray))) : Option ((Int × (List ByteArray)) ⊕ ((Nat × Nat × (List ByteArray)) ⊕ (List ByteArray))) :=
cond (decide (z156.1 < (z156.2.length : Int))) (
(ix z156.2 z156.1).bind fun a157 =>
(z156.2[z156.1.toNat]?).bind fun a158 =>
(ix z156.2 (IntKind.wrap .i64 (z156.1 - 1))).bind fun a159 =>
(z156.2[(IntKind.wrap .i64 (z156.1 - 1)).toNat]?).bind fun a160 =>
cond (a158.toList == a160.toList) (
grd (bnds (z156.2.length : Int) z156.1 (z156.2.length : Int)) <|
(loopN (L51_32 k z156) k (z156.1, 1, z156.2)).bind fun y169 => 
grd (bnds (y169.2.length : Int) y169.1 (y169.2.length : Int)) <|
grd (bnds ((y169.2.take y169.1.toNat ++ List.replicate (((y169.2.length : Int).toNat) - y169.1.toNat) ByteArray.empty ++ y169.2.drop (y169.1.toNat + (((y169.2.length : Int).toNat) - y169.1.toNat))).length : Int) 0 y169.1) <|
some (.inr (.inl (0, (y169.1.toNat - 0), (y169.2.take y169.1.toNat ++ List.replicate (((y169.2.length : Int).toNat) - y169.1.toNat) ByteArray.empty ++ y169.2.drop (y169.1.toNat + (((y169.2.length : Int).toNat) - y169.1.toNat))))))) (
some (.inl ((IntKind.wrap .i64 (z156.1 + 1)), z156.2)))) (
some (.inr (.inr z156.2)))
noncomputable def F51 (k : Nat) (x1 : (List ByteArray)) : Option (List ByteArray) :=
cond (decide ((x1.length : Int) < 2)) (
some x1) (
(loopN (L51_14 k) k (1, x1)).bind fun y170 => 
sel (fun y171 =>
some ((y171.2.2.drop y171.1).take y171.2.1)) (fun y172 =>
some y172) y170)
def A51 : CTpl := ⟨[.sl .u 1000000], [(1000000, .ar 9 (.str .nil))]⟩
def h51 : List HTy := [.tl (.str .nil)]
def R51 : List RTpl := [⟨.fz .u (.str .nil), [(1000000, .gone)], [.tl (.str .nil)]⟩]
def n51 : An := .sq (.nd) (.sq (.nd) (.sq (.sq (.nd) (.lp [0] [] ⟨[(3, .i .i64)], [(1000000, .ar 9 (.str .nil))]⟩ [.ti, .tl (.str .nil)] [(1, ⟨[(2, .sw 1000000)], [(1000000, .ar 9 (.str .nil))]⟩), (2, ⟨[], [(1000000, .ar 9 (.str .nil))]⟩)] [[.tn, .tn, .tl (.str .nil)], [.tl (.str .nil)]] (.sq (.nd) (.sq (.sq (.mk [] [0, 0, 3, 7, 0, 0, 32, 112, 240, 511]) (.sq (.sq (.nd) (.sq (.sq (.nd) (.lp [4] [] ⟨[(3, .i .i64), (5, .i .i64)], [(1000000, .ar 9 (.str .nil))]⟩ [.ti, .ti, .tl (.str .nil)] [(4, ⟨[(3, .i .i64)], [(1000000, .ar 9 (.str .nil))]⟩)] [[.ti, .tl (.str .nil)]] (.sq (.nd) (.jn [5] [] [(0, ⟨[(3, .i .i64)], [(1000000, .ar 9 (.str .nil))]⟩)] [[.ti, .tl (.str .nil)]] (.sq (.mk [] [0, 0, 3, 7, 0, 0, 32, 112, 240, 511]) (.nd)) (.nd))))) (.nd))) (.nd))) (.nd))))) (.nd)))
theorem e51 (k : Nat) (y : Tup h51) : exec (P := Tryd.prog) D (lk rowsL) [] k (bodyOf Tryd.f51) n51 (fnE Tryd.f51 A51 [] (inOf A51 (ofTup h51 y))) (fnSt [] (inOf A51 (ofTup h51 y))) (leafR D (fnE Tryd.f51 A51 [] (inOf A51 (ofTup h51 y))) Tryd.f51.results.toList (R51.map (·.h)) R51) = F51 k y := by kernel_rfl
noncomputable def C51 (k : Nat) : Con Tryd.prog := ⟨51, Tryd.f51, Tryd.func51, by kernel_rfl, by kernel_rfl, A51, h51, [], R51, fun y => F51 k y, fun y r h => con_ok good mixed (c := bodyOf Tryd.f51) Tryd.func51 (by kernel_rfl) n51 y ((e51 k y).trans h)⟩
noncomputable def F41 (k : Nat) (x1 : (List ByteArray)) : Option (List ByteArray) :=
(F46 k x1).bind fun y2 => 
(F47 k y2).bind fun y4 => 
(F51 k y4).bind fun y5 => 
some y5
def A41 : CTpl := ⟨[.fz .u (.str .nil)], []⟩
def h41 : List HTy := [.tl (.str .nil)]
def R41 : List RTpl := [⟨.fz .u (.str .nil), [], [.tl (.str .nil)]⟩]
def n41 : An := .nd
theorem e41 (k : Nat) (y : Tup h41) : exec (P := Tryd.prog) D (lk rowsL) [C46 k, C47 k, C51 k] k (bodyOf Tryd.f41) n41 (fnE Tryd.f41 A41 [] (inOf A41 (ofTup h41 y))) (fnSt [] (inOf A41 (ofTup h41 y))) (leafR D (fnE Tryd.f41 A41 [] (inOf A41 (ofTup h41 y))) Tryd.f41.results.toList (R41.map (·.h)) R41) = F41 k y := by kernel_rfl
noncomputable def C41 (k : Nat) : Con Tryd.prog := ⟨41, Tryd.f41, Tryd.func41, by kernel_rfl, by kernel_rfl, A41, h41, [], R41, fun y => F41 k y, fun y r h => con_ok good mixed (c := bodyOf Tryd.f41) Tryd.func41 (by kernel_rfl) n41 y ((e41 k y).trans h)⟩
noncomputable def L28_16 (k : Nat) (x1 : Int) {R : Type} (z16 : (((List (ByteArray × (ByteArray × Int × Int))) × (List (ByteArray × (ByteArray × Int × Int)))) × (List ByteArray))) (Kin : (((List (ByteArray × (ByteArray × Int × Int))) × (List (ByteArray × (ByteArray × Int × Int)))) × (List ByteArray)) → Option R) (Kout : ((List (ByteArray × (ByteArray × Int × Int))) × (List ByteArray)) → Option R) : Option R :=
cond z16.1.2.isEmpty (
Kout (z16.1.1, z16.2)) (
anyL z16.1.2 fun j17 => fun a18 =>
(F29 k a18.2.1 a18.2.2.1 a18.2.2.2 x1).bind fun y19 => 
cond y19 (
grd (decide ((z16.2.length + [a18.1].length) * 16 ≤ 140737488355328)) <|
Kin ((z16.1.1, (List.eraseIdx z16.1.2 j17)), (z16.2 ++ [a18.1]))) (
Kin ((z16.1.1, (List.eraseIdx z16.1.2 j17)), z16.2)))
noncomputable def F28 (k : Nat) (x1 : Int) (x2 : (List (ByteArray × (ByteArray × Int × Int)))) : Option ((List ByteArray) × Int × (List (ByteArray × (ByteArray × Int × Int)))) :=
loopC (L28_16 k x1) k ((x2, x2), ([] : List ByteArray)) fun y20 => 
(F41 k y20.2).bind fun y21 => 
some (y21, x1, y20.1)
def A28 : CTpl := ⟨[.pt 1000000 0, .fn 29 [.pt 1000001 0]], [(1000000, .bx 72 [.mp 1000002]), (1000001, .bx 23 [.i .u32]), (1000002, .mp ⟨.s, true, (.str (.int .u32 (.int .u32 .nil)))⟩)]⟩
def h28 : List HTy := [.ti, .tm ⟨.s, true, (.str (.int .u32 (.int .u32 .nil)))⟩]
def R28 : List RTpl := [⟨.fz .u (.str .nil), [(1000000, .bx 72 [.mp 1000002]), (1000001, .bx 23 [.i .u32]), (1000002, .mp ⟨.s, true, (.str (.int .u32 (.int .u32 .nil)))⟩)], [.tl (.str .nil), .ti, .tm ⟨.s, true, (.str (.int .u32 (.int .u32 .nil)))⟩]⟩]
def n28 : An := .sq (.nd) (.sq (.nd) (.sq (.nd) (.sq (.sq (.nd) (.lc [1, 14] [14, 1000000, 1000001] ⟨[(5, .sl .n 300800)], [(1000002, .mq ⟨.s, true, (.str (.int .u32 (.int .u32 .nil)))⟩ 14), (300800, .ar 9 (.str .nil))]⟩ [.tq ⟨.s, true, (.str (.int .u32 (.int .u32 .nil)))⟩, .tl (.str .nil)] [(2, ⟨[(5, .sl .n 300825)], [(1000002, .mp ⟨.s, true, (.str (.int .u32 (.int .u32 .nil)))⟩), (300825, .ar 9 (.str .nil))]⟩)] [[.tm ⟨.s, true, (.str (.int .u32 (.int .u32 .nil)))⟩, .tl (.str .nil)]] (.nd))) (.sq (.fr [(1, 300825)]) (.nd)))))
theorem e28 (k : Nat) (y : Tup h28) : exec (P := Tryd.prog) D (lk rowsL) [C29 k, C41 k] k (bodyOf Tryd.f28) n28 (fnE Tryd.f28 A28 [] (inOf A28 (ofTup h28 y))) (fnSt [] (inOf A28 (ofTup h28 y))) (leafR D (fnE Tryd.f28 A28 [] (inOf A28 (ofTup h28 y))) Tryd.f28.results.toList (R28.map (·.h)) R28) = F28 k y.1 y.2 := by kernel_rfl
noncomputable def C28 (k : Nat) : Con Tryd.prog := ⟨28, Tryd.f28, Tryd.func28, by kernel_rfl, by kernel_rfl, A28, h28, [], R28, fun y => F28 k y.1 y.2, fun y r h => con_ok good mixed (c := bodyOf Tryd.f28) Tryd.func28 (by kernel_rfl) n28 y ((e28 k y).trans h)⟩
noncomputable def F13 (k : Nat) (x1 : Int) (x2 : (List (ByteArray × (ByteArray × Int × Int)))) : Option ((List ByteArray) × (List (ByteArray × (ByteArray × Int × Int)))) :=
(F28 k x1 x2).bind fun y1 => 
some (y1.1, y1.2.2)
def A13 : CTpl := ⟨[.pt 1000000 0, .i .u32], [(1000000, .bx 72 [.mp 1000001]), (1000001, .mp ⟨.s, true, (.str (.int .u32 (.int .u32 .nil)))⟩)]⟩
def h13 : List HTy := [.ti, .tm ⟨.s, true, (.str (.int .u32 (.int .u32 .nil)))⟩]
def R13 : List RTpl := [⟨.fz .u (.str .nil), [(1000000, .bx 72 [.mp 1000001]), (1000001, .mp ⟨.s, true, (.str (.int .u32 (.int .u32 .nil)))⟩)], [.tl (.str .nil), .tm ⟨.s, true, (.str (.int .u32 (.int .u32 .nil)))⟩]⟩]
def n13 : An := .nd
theorem e13 (k : Nat) (y : Tup h13) : exec (P := Tryd.prog) D (lk rowsL) [C28 k] k (bodyOf Tryd.f13) n13 (fnE Tryd.f13 A13 [] (inOf A13 (ofTup h13 y))) (fnSt [] (inOf A13 (ofTup h13 y))) (leafR D (fnE Tryd.f13 A13 [] (inOf A13 (ofTup h13 y))) Tryd.f13.results.toList (R13.map (·.h)) R13) = F13 k y.1 y.2 := by kernel_rfl
noncomputable def C13 (k : Nat) : Con Tryd.prog := ⟨13, Tryd.f13, Tryd.func13, by kernel_rfl, by kernel_rfl, A13, h13, [], R13, fun y => F13 k y.1 y.2, fun y r h => con_ok good mixed (c := bodyOf Tryd.f13) Tryd.func13 (by kernel_rfl) n13 y ((e13 k y).trans h)⟩
noncomputable def L3_20 (k : Nat) (x1 : (List (List (Int × Bool × ByteArray)))) (y9 : ByteArray) (z55 : (Int × ByteArray × Int × Int)) : Option ((Int × ByteArray × Int × Int) ⊕ (ByteArray × Int × Int)) :=
((cond (decide (z55.1 < (x1.length : Int))) (
some (decide (z55.1 < 20))) (
some false) : Option Bool)).bind fun y56 => 
cond y56 (
(((ix x1 z55.1).bind fun a57 =>
(F11 k a57 5).bind fun y58 => 
(F10 k y58 y9).bind fun y59 => 
cond y59.2.2.2 (
cond (!y59.2.1) (
some (y9, (IntKind.wrap .u32 (IntKind.wrap .i64 (z55.1 + 1))), (IntKind.wrap .u32 (IntKind.wrap .i64 (z55.1 + 1))))) (
some (ByteArray.empty, 0, 0))) (
some (z55.2.1, z55.2.2.1, z55.2.2.2)) : Option (ByteArray × Int × Int))).bind fun y60 => 
some (.inl ((IntKind.wrap .i64 (z55.1 + 1)), y60.1, y60.2.1, y60.2.2))) (
some (.inr (z55.2.1, z55.2.2.1, z55.2.2.2)))
noncomputable def L3_61 (k : Nat) (x3 : Int) (y2 : (List (ByteArray × (ByteArray × Int × Int)))) (z94 : (Int × Int)) : Option ((Int × Int) ⊕ Int) :=
cond (decide (z94.2 < 12)) (
(((F9 k z94.2).bind fun y95 => 
(F12 k y95 y2).bind fun y96 => 
((cond y96.2.2.2 (
some (y96.2.1 == (x3.tmod 22))) (
some false) : Option Bool)).bind fun y97 => 
cond y97 (
some (IntKind.wrap .i64 (z94.1 + 1))) (
some z94.1) : Option Int)).bind fun y98 => 
some (.inl (y98, (IntKind.wrap .i64 (z94.2 + 1))))) (
some (.inr z94.1))
noncomputable def F3 (k : Nat) (x1 : (List (List (Int × Bool × ByteArray)))) (x2 : Int) (x3 : Int) : Option Bool :=
(F7 k x1).bind fun y2 => 
(((F8 k).bind fun y6 => 
cond (!y6) (
some true) (
some false) : Option Bool)).bind fun y7 => 
cond y7 (
some false) (
(F9 k x2).bind fun y9 => 
(loopN (L3_20 k x1 y9) k (0, ByteArray.empty, 0, 0)).bind fun y61 => 
(F12 k y9 y2).bind fun y63 => 
((cond (!((y63.1.toList == y61.1.toList) && ((y63.2.1 == y61.2.1) && ((y63.2.2.1 == y61.2.2) && true)))) (
some true) (
some (!(y63.2.2.2 == (y61.2.1 != 0)))) : Option Bool)).bind fun y65 => 
cond y65 (
some false) (
(loopN (L3_61 k x3 y2) k (0, 0)).bind fun y99 => 
(F13 k (x3.tmod 22) y2).bind fun y100 => 
some ((y100.1.length : Int) == y99)))
def A3 : CTpl := ⟨[.fz .u (.sl (.int .i64 (.bool (.str .nil))) .nil), .i .i64, .i .u32], []⟩
def h3 : List HTy := [.tl (.sl (.int .i64 (.bool (.str .nil))) .nil), .ti, .ti]
def R3 : List RTpl := [⟨.b, [], [.tb]⟩]
def n3 : An := .sq (.nd) (.sq (.nd) (.sq (.jn [0, 1, 2, 7] [402000, 402001] [(0, ⟨[(26, .b)], []⟩)] [[.tb]] (.nd) (.nd)) (.sq (.nd) (.sq (.nd) (.sq (.sq (.nd) (.lp [0, 2, 7, 8, 9] [402000, 402001] ⟨[(10, .i .i64)], [(9, .bx 29 [.s, .i .u32, .i .u32])]⟩ [.ti, .ts, .ti, .ti] [(2, ⟨[], [(9, .bx 29 [.s, .i .u32, .i .u32])]⟩)] [[.ts, .ti, .ti]] (.sq (.jn [10] [9] [(0, ⟨[(37, .b)], []⟩)] [[.tb]] (.nd) (.nd)) (.jn [10] [] [(0, ⟨[], [(9, .bx 29 [.s, .i .u32, .i .u32])]⟩)] [[.ts, .ti, .ti]] (.sq (.fr [(6, 404500)]) (.nd)) (.nd))))) (.sq (.nd) (.sq (.jn [2, 7] [402000, 402001] [(0, ⟨[(78, .b)], []⟩)] [[.tb]] (.nd) (.nd)) (.sq (.nd) (.sq (.nd) (.sq (.sq (.nd) (.lp [2, 7] [402000, 402001] ⟨[(15, .i .i64), (16, .i .i64)], []⟩ [.ti, .ti] [(4, ⟨[(15, .i .i64)], []⟩)] [[.ti]] (.sq (.nd) (.jn [16] [] [(0, ⟨[(15, .i .i64)], []⟩)] [[.ti]] (.sq (.nd) (.jn [15] [] [(0, ⟨[(98, .b)], []⟩)] [[.tb]] (.nd) (.nd))) (.nd))))) (.nd)))))))))))
theorem e3 (k : Nat) (y : Tup h3) : exec (P := Tryd.prog) D (lk rowsL) [C7 k, C8 k, C9 k, C11 k, C10 k, C12 k, C13 k] k (bodyOf Tryd.f3) n3 (fnE Tryd.f3 A3 [] (inOf A3 (ofTup h3 y))) (fnSt [] (inOf A3 (ofTup h3 y))) (leafR D (fnE Tryd.f3 A3 [] (inOf A3 (ofTup h3 y))) Tryd.f3.results.toList (R3.map (·.h)) R3) = F3 k y.1 y.2.1 y.2.2 := by kernel_rfl
noncomputable def C3 (k : Nat) : Con Tryd.prog := ⟨3, Tryd.f3, Tryd.func3, by kernel_rfl, by kernel_rfl, A3, h3, [], R3, fun y => F3 k y.1 y.2.1 y.2.2, fun y r h => con_ok good mixed (c := bodyOf Tryd.f3) Tryd.func3 (by kernel_rfl) n3 y ((e3 k y).trans h)⟩
noncomputable def F30 (k : Nat) (x1 : ByteArray) (x2 : Int) (x3 : Int) (x4 : Int) (x5 : Int) : Option Bool :=
cond (decide (x2 ≤ x4)) (
some true) (
some (decide (x3 ≤ x5)))
def A30 : CTpl := ⟨[.ag [.s, .i .u32, .i .u32], .pt 1000000 0, .pt 1000001 0], [(1000000, .bx 23 [.i .u32]), (1000001, .bx 23 [.i .u32])]⟩
def h30 : List HTy := [.ts, .ti, .ti, .ti, .ti]
def R30 : List RTpl := [⟨.b, [], [.tb]⟩]
def n30 : An := .nd
theorem e30 (k : Nat) (y : Tup h30) : exec (P := Tryd.prog) D (lk rowsL) [] k (bodyOf Tryd.f30) n30 (fnE Tryd.f30 A30 [1000000, 1000001] (inOf A30 (ofTup h30 y))) (fnSt [1000000, 1000001] (inOf A30 (ofTup h30 y))) (leafR D (fnE Tryd.f30 A30 [1000000, 1000001] (inOf A30 (ofTup h30 y))) Tryd.f30.results.toList (R30.map (·.h)) R30) = F30 k y.1 y.2.1 y.2.2.1 y.2.2.2.1 y.2.2.2.2 := by kernel_rfl
noncomputable def C30 (k : Nat) : Con Tryd.prog := ⟨30, Tryd.f30, Tryd.func30, by kernel_rfl, by kernel_rfl, A30, h30, [1000000, 1000001], R30, fun y => F30 k y.1 y.2.1 y.2.2.1 y.2.2.2.1 y.2.2.2.2, fun y r h => con_ok good mixed (c := bodyOf Tryd.f30) Tryd.func30 (by kernel_rfl) n30 y ((e30 k y).trans h)⟩
noncomputable def L28_1_16 (k : Nat) (x1 : Int) (x2 : Int) {R : Type} (z16 : (((List (ByteArray × (ByteArray × Int × Int))) × (List (ByteArray × (ByteArray × Int × Int)))) × (List ByteArray))) (Kin : (((List (ByteArray × (ByteArray × Int × Int))) × (List (ByteArray × (ByteArray × Int × Int)))) × (List ByteArray)) → Option R) (Kout : ((List (ByteArray × (ByteArray × Int × Int))) × (List ByteArray)) → Option R) : Option R :=
cond z16.1.2.isEmpty (
Kout (z16.1.1, z16.2)) (
anyL z16.1.2 fun j17 => fun a18 =>
(F30 k a18.2.1 a18.2.2.1 a18.2.2.2 x1 x2).bind fun y19 => 
cond y19 (
grd (decide ((z16.2.length + [a18.1].length) * 16 ≤ 140737488355328)) <|
Kin ((z16.1.1, (List.eraseIdx z16.1.2 j17)), (z16.2 ++ [a18.1]))) (
Kin ((z16.1.1, (List.eraseIdx z16.1.2 j17)), z16.2)))
noncomputable def F28_1 (k : Nat) (x1 : Int) (x2 : Int) (x3 : (List (ByteArray × (ByteArray × Int × Int)))) : Option ((List ByteArray) × Int × Int × (List (ByteArray × (ByteArray × Int × Int)))) :=
loopC (L28_1_16 k x1 x2) k ((x3, x3), ([] : List ByteArray)) fun y20 => 
(F41 k y20.2).bind fun y21 => 
some (y21, x1, x2, y20.1)
def A28_1 : CTpl := ⟨[.pt 1000000 0, .fn 30 [.pt 1000001 0, .pt 1000002 0]], [(1000000, .bx 72 [.mp 1000003]), (1000001, .bx 23 [.i .u32]), (1000002, .bx 23 [.i .u32]), (1000003, .mp ⟨.s, true, (.str (.int .u32 (.int .u32 .nil)))⟩)]⟩
def h28_1 : List HTy := [.ti, .ti, .tm ⟨.s, true, (.str (.int .u32 (.int .u32 .nil)))⟩]
def R28_1 : List RTpl := [⟨.fz .u (.str .nil), [(1000000, .bx 72 [.mp 1000003]), (1000001, .bx 23 [.i .u32]), (1000002, .bx 23 [.i .u32]), (1000003, .mp ⟨.s, true, (.str (.int .u32 (.int .u32 .nil)))⟩)], [.tl (.str .nil), .ti, .ti, .tm ⟨.s, true, (.str (.int .u32 (.int .u32 .nil)))⟩]⟩]
def n28_1 : An := .sq (.nd) (.sq (.nd) (.sq (.nd) (.sq (.sq (.nd) (.lc [1, 14] [14, 1000000, 1000001, 1000002] ⟨[(5, .sl .n 300800)], [(1000003, .mq ⟨.s, true, (.str (.int .u32 (.int .u32 .nil)))⟩ 14), (300800, .ar 9 (.str .nil))]⟩ [.tq ⟨.s, true, (.str (.int .u32 (.int .u32 .nil)))⟩, .tl (.str .nil)] [(2, ⟨[(5, .sl .n 300825)], [(1000003, .mp ⟨.s, true, (.str (.int .u32 (.int .u32 .nil)))⟩), (300825, .ar 9 (.str .nil))]⟩)] [[.tm ⟨.s, true, (.str (.int .u32 (.int .u32 .nil)))⟩, .tl (.str .nil)]] (.nd))) (.sq (.fr [(1, 300825)]) (.nd)))))
theorem e28_1 (k : Nat) (y : Tup h28_1) : exec (P := Tryd.prog) D (lk rowsL) [C30 k, C41 k] k (bodyOf Tryd.f28) n28_1 (fnE Tryd.f28 A28_1 [] (inOf A28_1 (ofTup h28_1 y))) (fnSt [] (inOf A28_1 (ofTup h28_1 y))) (leafR D (fnE Tryd.f28 A28_1 [] (inOf A28_1 (ofTup h28_1 y))) Tryd.f28.results.toList (R28_1.map (·.h)) R28_1) = F28_1 k y.1 y.2.1 y.2.2 := by kernel_rfl
noncomputable def C28_1 (k : Nat) : Con Tryd.prog := ⟨28, Tryd.f28, Tryd.func28, by kernel_rfl, by kernel_rfl, A28_1, h28_1, [], R28_1, fun y => F28_1 k y.1 y.2.1 y.2.2, fun y r h => con_ok good mixed (c := bodyOf Tryd.f28) Tryd.func28 (by kernel_rfl) n28_1 y ((e28_1 k y).trans h)⟩
noncomputable def L14_8 (k : Nat) (y2 : ((List ByteArray) × Int × Int × (List (ByteArray × (ByteArray × Int × Int))))) (z11 : (Int × (List (ByteArray × (ByteArray × Int × Int))))) : Option ((Int × (List (ByteArray × (ByteArray × Int × Int)))) ⊕ (List (ByteArray × (ByteArray × Int × Int)))) :=
cond (decide (z11.1 < (y2.1.length : Int))) (
(ix y2.1 z11.1).bind fun a12 =>
some (.inl ((IntKind.wrap .i64 (z11.1 + 1)), (mdel sEq z11.2 a12)))) (
some (.inr z11.2))
noncomputable def F14 (k : Nat) (x1 : Int) (x2 : Int) (x3 : (List (ByteArray × (ByteArray × Int × Int)))) : Option ((List ByteArray) × (List (ByteArray × (ByteArray × Int × Int)))) :=
(F28_1 k x1 x2 x3).bind fun y2 => 
(loopN (L14_8 k y2) k (0, y2.2.2.2)).bind fun y13 => 
some (y2.1, y13)
def A14 : CTpl := ⟨[.pt 1000000 0, .i .u32, .i .u32], [(1000000, .bx 72 [.mp 1000001]), (1000001, .mp ⟨.s, true, (.str (.int .u32 (.int .u32 .nil)))⟩)]⟩
def h14 : List HTy := [.ti, .ti, .tm ⟨.s, true, (.str (.int .u32 (.int .u32 .nil)))⟩]
def R14 : List RTpl := [⟨.fz .u (.str .nil), [(1000000, .bx 72 [.mp 1000001]), (1000001, .mp ⟨.s, true, (.str (.int .u32 (.int .u32 .nil)))⟩)], [.tl (.str .nil), .tm ⟨.s, true, (.str (.int .u32 (.int .u32 .nil)))⟩]⟩]
def n14 : An := .sq (.nd) (.sq (.nd) (.sq (.sq (.nd) (.lp [0, 7, 13, 14] [1000000] ⟨[(15, .i .i64)], [(1000001, .mp ⟨.s, true, (.str (.int .u32 (.int .u32 .nil)))⟩)]⟩ [.ti, .tm ⟨.s, true, (.str (.int .u32 (.int .u32 .nil)))⟩] [(2, ⟨[], [(1000001, .mp ⟨.s, true, (.str (.int .u32 (.int .u32 .nil)))⟩)]⟩)] [[.tm ⟨.s, true, (.str (.int .u32 (.int .u32 .nil)))⟩]] (.nd))) (.nd)))
theorem e14 (k : Nat) (y : Tup h14) : exec (P := Tryd.prog) D (lk rowsL) [C28_1 k] k (bodyOf Tryd.f14) n14 (fnE Tryd.f14 A14 [] (inOf A14 (ofTup h14 y))) (fnSt [] (inOf A14 (ofTup h14 y))) (leafR D (fnE Tryd.f14 A14 [] (inOf A14 (ofTup h14 y))) Tryd.f14.results.toList (R14.map (·.h)) R14) = F14 k y.1 y.2.1 y.2.2 := by kernel_rfl
noncomputable def C14 (k : Nat) : Con Tryd.prog := ⟨14, Tryd.f14, Tryd.func14, by kernel_rfl, by kernel_rfl, A14, h14, [], R14, fun y => F14 k y.1 y.2.1 y.2.2, fun y r h => con_ok good mixed (c := bodyOf Tryd.f14) Tryd.func14 (by kernel_rfl) n14 y ((e14 k y).trans h)⟩
noncomputable def L4_22 (k : Nat) (x2 : Int) (x3 : Int) (y4 : (List (ByteArray × (ByteArray × Int × Int)))) (y11 : ((List ByteArray) × (List (ByteArray × (ByteArray × Int × Int))))) (z52 : (Int × Int)) : Option ((Int × Int) ⊕ (Unit ⊕ Int)) :=
cond (decide (z52.2 < 12)) (
(F9 k z52.2).bind fun y53 => 
(F12 k y53 y11.2).bind fun y54 => 
(F12 k y53 y4).bind fun y55 => 
((cond y55.2.2.2 (
cond (decide (y55.2.1 ≤ (x2.tmod 22))) (
some true) (
some (decide (y55.2.2.1 ≤ (x3.tmod 22))))) (
some false) : Option Bool)).bind fun y56 => 
((cond y56 (
some (IntKind.wrap .i64 (z52.1 + 1))) (
some z52.1) : Option Int)).bind fun y57 => 
((cond y55.2.2.2 (
cond (!(y54.2.2.2 == (!y56))) (
some true) (
cond y54.2.2.2 (
some (!((y54.1.toList == y55.1.toList) && ((y54.2.1 == y55.2.1) && ((y54.2.2.1 == y55.2.2.1) && true))))) (
some false))) (
cond (!(y54.2.2.2 == false)) (
some true) (
cond y54.2.2.2 (
some (!((y54.1.toList == y55.1.toList) && ((y54.2.1 == y55.2.1) && ((y54.2.2.1 == y55.2.2.1) && true))))) (
some false))) : Option Bool)).bind fun y58 => 
cond y58 (
some (.inr (.inl ()))) (
some (.inl (y57, (IntKind.wrap .i64 (z52.2 + 1)))))) (
some (.inr (.inr z52.1)))
noncomputable def F4 (k : Nat) (x1 : (List (List (Int × Bool × ByteArray)))) (x2 : Int) (x3 : Int) : Option Bool :=
(F7 k x1).bind fun y3 => 
(F7 k x1).bind fun y4 => 
(((F8 k).bind fun y8 => 
cond (!y8) (
some true) (
some false) : Option Bool)).bind fun y9 => 
cond y9 (
some false) (
(F14 k (x2.tmod 22) (x3.tmod 22) y3).bind fun y11 => 
(loopN (L4_22 k x2 x3 y4 y11) k (0, 0)).bind fun y59 => 
sel (fun y60 =>
some false) (fun y61 =>
cond ((y11.1.length : Int) == y61) (
(F15 k y11.2).bind fun y62 => 
(F15 k y4).bind fun y63 => 
cond (y62 == (IntKind.wrap .i64 (y63 - y61))) (
(F14 k (x2.tmod 22) (x3.tmod 22) y11.2).bind fun y64 => 
cond ((y64.1.length : Int) == 0) (
(F16 k (mx (x2.tmod 22) (x3.tmod 22)) y64.2).bind fun y65 => 
some (y65.1 == 0)) (
some false)) (
some false)) (
some false)) y59)
def A4 : CTpl := ⟨[.fz .u (.sl (.int .i64 (.bool (.str .nil))) .nil), .i .u32, .i .u32], []⟩
def h4 : List HTy := [.tl (.sl (.int .i64 (.bool (.str .nil))) .nil), .ti, .ti]
def R4 : List RTpl := [⟨.b, [], [.tb]⟩]
def n4 : An := .sq (.nd) (.sq (.nd) (.sq (.jn [1, 2, 7, 8] [401900, 401901, 402100, 402101] [(0, ⟨[(31, .b)], []⟩)] [[.tb]] (.nd) (.nd)) (.sq (.nd) (.sq (.nd) (.sq (.nd) (.sq (.sq (.nd) (.lp [1, 2, 7, 8, 9] [401900, 401901, 402100, 402101] ⟨[(10, .i .i64), (11, .i .i64)], []⟩ [.ti, .ti] [(1, ⟨[(6, .lb false)], []⟩), (2, ⟨[(10, .i .i64)], []⟩)] [[], [.ti]] (.sq (.nd) (.sq (.sq (.nd) (.sq (.nd) (.sq (.nd) (.jn [10, 11, 13, 14, 15, 16] [13, 15] [(0, ⟨[(17, .b)], []⟩)] [[.tb]] (.nd) (.jn [11, 13, 14, 15, 16, 17] [13, 15] [(0, ⟨[(10, .i .i64)], []⟩)] [[.ti]] (.nd) (.jn [10, 11] [] [(0, ⟨[(88, .b)], []⟩)] [[.tb]] (.nd) (.nd))))))) (.nd))))) (.nd)))))))
theorem e4 (k : Nat) (y : Tup h4) : exec (P := Tryd.prog) D (lk rowsL) [C7 k, C8 k, C14 k, C9 k, C12 k, C15 k, C16 k] k (bodyOf Tryd.f4) n4 (fnE Tryd.f4 A4 [] (inOf A4 (ofTup h4 y))) (fnSt [] (inOf A4 (ofTup h4 y))) (leafR D (fnE Tryd.f4 A4 [] (inOf A4 (ofTup h4 y))) Tryd.f4.results.toList (R4.map (·.h)) R4) = F4 k y.1 y.2.1 y.2.2 := by kernel_rfl
noncomputable def C4 (k : Nat) : Con Tryd.prog := ⟨4, Tryd.f4, Tryd.func4, by kernel_rfl, by kernel_rfl, A4, h4, [], R4, fun y => F4 k y.1 y.2.1 y.2.2, fun y r h => con_ok good mixed (c := bodyOf Tryd.f4) Tryd.func4 (by kernel_rfl) n4 y ((e4 k y).trans h)⟩
noncomputable def L31_8 (k : Nat) (x1 : (List (ByteArray × Bool × ByteArray))) (x2 : Int) (z33 : (Int × (List (ByteArray × Bool × ByteArray)))) : Option ((Int × (List (ByteArray × Bool × ByteArray))) ⊕ (List (ByteArray × Bool × ByteArray))) :=
((cond (decide (z33.1 < (x1.length : Int))) (
some (decide (z33.1 < x2))) (
some false) : Option Bool)).bind fun y34 => 
cond y34 (
(ix x1 z33.1).bind fun a35 =>
(F39 k a35.1 60).bind fun y36 => 
(ix x1 z33.1).bind fun a37 =>
(ix x1 z33.1).bind fun a38 =>
(F39 k a38.2.2 60).bind fun y39 => 
grd (decide ((z33.2.length + [(y36, a37.2.1, y39)].length) * 40 ≤ 140737488355328)) <|
some (.inl ((IntKind.wrap .i64 (z33.1 + 1)), (z33.2 ++ [(y36, a37.2.1, y39)])))) (
some (.inr z33.2))
noncomputable def F31 (k : Nat) (x1 : (List (ByteArray × Bool × ByteArray))) (x2 : Int) : Option (List (ByteArray × Bool × ByteArray)) :=
(loopN (L31_8 k x1 x2) k (0, ([] : List (ByteArray × Bool × ByteArray)))).bind fun y40 => 
some y40
def A31 : CTpl := ⟨[.fz .u (.str (.bool (.str .nil))), .i .i64], []⟩
def h31 : List HTy := [.tl (.str (.bool (.str .nil))), .ti]
def R31 : List RTpl := [⟨.sl .u 500000, [(500000, .ar 31 (.str (.bool (.str .nil))))], [.tl (.str (.bool (.str .nil)))]⟩]
def n31 : An := .sq (.nd) (.sq (.nd) (.sq (.sq (.nd) (.lp [0, 1] [] ⟨[(5, .sl .n 300400), (6, .i .i64)], [(300400, .ar 31 (.str (.bool (.str .nil))))]⟩ [.ti, .tl (.str (.bool (.str .nil)))] [(2, ⟨[(5, .sl .n 300425)], [(300425, .ar 31 (.str (.bool (.str .nil))))]⟩)] [[.tl (.str (.bool (.str .nil)))]] (.sq (.jn [5, 6] [300400] [(0, ⟨[(15, .b)], []⟩)] [[.tb]] (.nd) (.nd)) (.sq (.mk [] [0, 0, 0, 6, 14, 30, 62, 0, 0, 384, 896, 1920, 0, 0, 12288, 28672, 61440, 127102, 262142, 524286, 1048575, 2097151]) (.nd))))) (.nd)))
theorem e31 (k : Nat) (y : Tup h31) : exec (P := Tryd.prog) D (lk rowsL) [C39 k] k (bodyOf Tryd.f31) n31 (fnE Tryd.f31 A31 [] (inOf A31 (ofTup h31 y))) (fnSt [] (inOf A31 (ofTup h31 y))) (leafR D (fnE Tryd.f31 A31 [] (inOf A31 (ofTup h31 y))) Tryd.f31.results.toList (R31.map (·.h)) R31) = F31 k y.1 y.2 := by kernel_rfl
noncomputable def C31 (k : Nat) : Con Tryd.prog := ⟨31, Tryd.f31, Tryd.func31, by kernel_rfl, by kernel_rfl, A31, h31, [], R31, fun y => F31 k y.1 y.2, fun y r h => con_ok good mixed (c := bodyOf Tryd.f31) Tryd.func31 (by kernel_rfl) n31 y ((e31 k y).trans h)⟩
noncomputable def F19 (k : Nat) (x1 : Int) (x2 : Int) (x3 : Int) (x4 : (List (Int × Bool × ByteArray))) (x5 : (List (ByteArray × Bool × ByteArray))) (x6 : Bool) : Option (Int × Int × Int × (List (ByteArray × Bool × ByteArray))) :=
(F11 k x4 6).bind fun y2 => 
((cond x6 (
(F31 k x5 8).bind fun y4 => 
some y4) (
some y2) : Option (List (ByteArray × Bool × ByteArray)))).bind fun y5 => 
some (x2, 0, x3, y5)
def A19 : CTpl := ⟨[.ag [.i .i64, .i .u32, .i .u32, .fz .u (.int .i64 (.bool (.str .nil))), .fz .u (.str (.bool (.str .nil))), .b]], []⟩
def h19 : List HTy := [.ti, .ti, .ti, .tl (.int .i64 (.bool (.str .nil))), .tl (.str (.bool (.str .nil))), .tb]
def R19 : List RTpl := [⟨.ag [.i .u32, .i .u32, .i .u32, .fz .u (.str (.bool (.str .nil)))], [], [.ti, .ti, .ti, .tl (.str (.bool (.str .nil)))]⟩]
def n19 : An := .sq (.nd) (.sq (.nd) (.jn [1, 2] [1, 2] [(0, ⟨[(3, .sl .u 300200)], [(300200, .ar 31 (.str (.bool (.str .nil))))]⟩)] [[.tl (.str (.bool (.str .nil)))]] (.nd) (.nd)))
theorem e19 (k : Nat) (y : Tup h19) : exec (P := Tryd.prog) D (lk rowsL) [C11 k, C31 k] k (bodyOf Tryd.f19) n19 (fnE Tryd.f19 A19 [] (inOf A19 (ofTup h19 y))) (fnSt [] (inOf A19 (ofTup h19 y))) (leafR D (fnE Tryd.f19 A19 [] (inOf A19 (ofTup h19 y))) Tryd.f19.results.toList (R19.map (·.h)) R19) = F19 k y.1 y.2.1 y.2.2.1 y.2.2.2.1 y.2.2.2.2.1 y.2.2.2.2.2 := by kernel_rfl
noncomputable def C19 (k : Nat) : Con Tryd.prog := ⟨19, Tryd.f19, Tryd.func19, by kernel_rfl, by kernel_rfl, A19, h19, [], R19, fun y => F19 k y.1 y.2.1 y.2.2.1 y.2.2.2.1 y.2.2.2.2.1 y.2.2.2.2.2, fun y r h => con_ok good mixed (c := bodyOf Tryd.f19) Tryd.func19 (by kernel_rfl) n19 y ((e19 k y).trans h)⟩
noncomputable def L5_16 (k : Nat) (x1 : (List (Int × Int × Int × (List (Int × Bool × ByteArray)) × (List (ByteArray × Bool × ByteArray)) × Bool))) (z35 : (Int × (List (ByteArray × (ByteArray × Int × Int))))) : Option ((Int × (List (ByteArray × (ByteArray × Int × Int)))) ⊕ (List (ByteArray × (ByteArray × Int × Int)))) :=
((cond (decide (z35.1 < (x1.length : Int))) (
some (decide (z35.1 < 20))) (
some false) : Option Bool)).bind fun y36 => 
cond y36 (
(ix x1 z35.1).bind fun a37 =>
grd ((IntKind.wrap .u32 (IntKind.wrap .i64 (z35.1 + 1))) != 0) <|
(F19 k a37.1 a37.2.1 (IntKind.wrap .u32 (1 + (a37.2.2.1.tmod (IntKind.wrap .u32 (IntKind.wrap .i64 (z35.1 + 1)))))) a37.2.2.2.1 a37.2.2.2.2.1 false).bind fun y38 => 
(F18 k (IntKind.wrap .u32 (IntKind.wrap .i64 (z35.1 + 1))) 0 (IntKind.wrap .u32 (1 + (a37.2.2.1.tmod (IntKind.wrap .u32 (IntKind.wrap .i64 (z35.1 + 1)))))) y38.2.2.2 z35.2).bind fun y39 => 
some (.inl ((IntKind.wrap .i64 (z35.1 + 1)), y39))) (
some (.inr z35.2))
noncomputable def L5_43 (k : Nat) (x2 : Int) (y42 : (Int × (List (ByteArray × (ByteArray × Int × Int))))) (y44 : ((List ByteArray) × (List (ByteArray × (ByteArray × Int × Int))))) (z68 : Int) : Option (Int ⊕ (Unit ⊕ Unit)) :=
cond (decide (z68 < 12)) (
(F9 k z68).bind fun y69 => 
(F12 k y69 y44.2).bind fun y70 => 
((cond y70.2.2.2 (
cond (decide (y70.2.1 ≤ (x2.tmod 22))) (
some true) (
some (decide (y70.2.2.1 ≤ y42.1)))) (
some false) : Option Bool)).bind fun y71 => 
cond y71 (
some (.inr (.inl ()))) (
some (.inl (IntKind.wrap .i64 (z68 + 1))))) (
some (.inr (.inr ())))
noncomputable def F5 (k : Nat) (x1 : (List (Int × Int × Int × (List (Int × Bool × ByteArray)) × (List (ByteArray × Bool × ByteArray)) × Bool))) (x2 : Int) : Option Bool :=
(F17 k).bind fun y2 => 
(((F8 k).bind fun y6 => 
cond (!y6) (
some true) (
some false) : Option Bool)).bind fun y7 => 
cond y7 (
some false) (
(loopN (L5_16 k x1) k (0, y2)).bind fun y40 => 
(F16 k (x2.tmod 22) y40).bind fun y42 => 
(F14 k (x2.tmod 22) y42.1 y42.2).bind fun y44 => 
(loopN (L5_43 k x2 y42 y44) k 0).bind fun y72 => 
sel (fun y73 =>
some false) (fun y74 =>
cond (decide (y42.1 ≤ (x2.tmod 22))) (
(F16 k (x2.tmod 22) y44.2).bind fun y75 => 
some (y75.1 == 0)) (
some false)) y72)
def A5 : CTpl := ⟨[.fz .u (.int .i64 (.int .u32 (.int .u32 (.sl (.int .i64 (.bool (.str .nil))) (.sl (.str (.bool (.str .nil))) (.bool .nil)))))), .i .u32], []⟩
def h5 : List HTy := [.tl (.int .i64 (.int .u32 (.int .u32 (.sl (.int .i64 (.bool (.str .nil))) (.sl (.str (.bool (.str .nil))) (.bool .nil)))))), .ti]
def R5 : List RTpl := [⟨.b, [], [.tb]⟩]
def n5 : An := .sq (.nd) (.sq (.nd) (.sq (.jn [0, 1, 5] [401200, 401201] [(0, ⟨[(18, .b)], []⟩)] [[.tb]] (.nd) (.nd)) (.sq (.sq (.nd) (.lp [0, 1, 5] [401200] ⟨[(6, .i .i64)], [(401201, .mp ⟨.s, true, (.str (.int .u32 (.int .u32 .nil)))⟩)]⟩ [.ti, .tm ⟨.s, true, (.str (.int .u32 (.int .u32 .nil)))⟩] [(2, ⟨[], [(401201, .mp ⟨.s, true, (.str (.int .u32 (.int .u32 .nil)))⟩)]⟩)] [[.tm ⟨.s, true, (.str (.int .u32 (.int .u32 .nil)))⟩]] (.sq (.jn [6] [401201] [(0, ⟨[(26, .b)], []⟩)] [[.tb]] (.nd) (.nd)) (.sq (.sq (.nd) (.sq (.nd) (.sq (.nd) (.mk [] [0, 0, 2, 6, 0, 16, 0, 64, 192, 510, 1023])))) (.nd))))) (.sq (.nd) (.sq (.nd) (.sq (.nd) (.sq (.sq (.nd) (.lp [1, 5, 8] [401200, 401201] ⟨[(9, .i .i64)], []⟩ [.ti] [(1, ⟨[(4, .lb false)], []⟩), (4, ⟨[], []⟩)] [[], []] (.sq (.nd) (.sq (.sq (.nd) (.jn [9] [] [(0, ⟨[(85, .b)], []⟩)] [[.tb]] (.nd) (.nd))) (.nd))))) (.nd))))))))
theorem e5 (k : Nat) (y : Tup h5) : exec (P := Tryd.prog) D (lk rowsL) [C17 k, C8 k, C19 k, C18 k, C16 k, C14 k, C9 k, C12 k] k (bodyOf Tryd.f5) n5 (fnE Tryd.f5 A5 [] (inOf A5 (ofTup h5 y))) (fnSt [] (inOf A5 (ofTup h5 y))) (leafR D (fnE Tryd.f5 A5 [] (inOf A5 (ofTup h5 y))) Tryd.f5.results.toList (R5.map (·.h)) R5) = F5 k y.1 y.2 := by kernel_rfl
noncomputable def C5 (k : Nat) : Con Tryd.prog := ⟨5, Tryd.f5, Tryd.func5, by kernel_rfl, by kernel_rfl, A5, h5, [], R5, fun y => F5 k y.1 y.2, fun y r h => con_ok good mixed (c := bodyOf Tryd.f5) Tryd.func5 (by kernel_rfl) n5 y ((e5 k y).trans h)⟩
noncomputable def L32_10 (k : Nat) (x1 : Int) (x2 : Int) (x3 : (List (ByteArray × Int × Int))) (z39 : (Int × (List ByteArray) × (List (ByteArray × Int × Int)))) : Option ((Int × (List ByteArray) × (List (ByteArray × Int × Int))) ⊕ ((List ByteArray) × (List (ByteArray × Int × Int)))) :=
cond (decide (z39.1 < (x3.length : Int))) (
(((((ix x3 z39.1).bind fun a40 =>
cond (decide (a40.2.1 ≤ x1)) (
some true) (
(ix x3 z39.1).bind fun a41 =>
some (decide (a41.2.2 ≤ x2))) : Option Bool)).bind fun y42 => 
cond y42 (
(ix x3 z39.1).bind fun a43 =>
grd (decide ((z39.2.1.length + [a43.1].length) * 16 ≤ 140737488355328)) <|
some ((z39.2.1 ++ [a43.1]), z39.2.2)) (
(ix x3 z39.1).bind fun a44 =>
grd (decide ((z39.2.2.length + [(a44.1, a44.2.1, a44.2.2)].length) * 24 ≤ 140737488355328)) <|
some (z39.2.1, (z39.2.2 ++ [(a44.1, a44.2.1, a44.2.2)]))) : Option ((List ByteArray) × (List (ByteArray × Int × Int))))).bind fun y45 => 
some (.inl ((IntKind.wrap .i64 (z39.1 + 1)), y45.1, y45.2))) (
some (.inr (z39.2.1, z39.2.2)))
noncomputable def F32 (k : Nat) (x1 : Int) (x2 : Int) (x3 : (List (ByteArray × Int × Int))) : Option ((List ByteArray) × (List (ByteArray × Int × Int))) :=
(loopN (L32_10 k x1 x2 x3) k (0, ([] : List ByteArray), ([] : List (ByteArray × Int × Int)))).bind fun y46 => 
some (y46.1, y46.2)
def A32 : CTpl := ⟨[.pt 1000000 0, .i .u32, .i .u32], [(1000000, .bx 58 [.fz .u (.str (.int .u32 (.int .u32 .nil)))])]⟩
def h32 : List HTy := [.ti, .ti, .tl (.str (.int .u32 (.int .u32 .nil)))]
def R32 : List RTpl := [⟨.sl .u 500000, [(1000000, .bx 58 [.sl .u 500001]), (500000, .ar 9 (.str .nil)), (500001, .ar 29 (.str (.int .u32 (.int .u32 .nil))))], [.tl (.str .nil), .tl (.str (.int .u32 (.int .u32 .nil)))]⟩]
def n32 : An := .sq (.nd) (.sq (.nd) (.sq (.nd) (.sq (.sq (.nd) (.lp [0, 1, 2] [1000000] ⟨[(7, .sl .n 300500), (8, .sl .n 300501), (9, .i .i64)], [(300500, .ar 9 (.str .nil)), (300501, .ar 29 (.str (.int .u32 (.int .u32 .nil))))]⟩ [.ti, .tl (.str .nil), .tl (.str (.int .u32 (.int .u32 .nil)))] [(2, ⟨[(7, .sl .n 300525), (8, .sl .n 300526)], [(300525, .ar 9 (.str .nil)), (300526, .ar 29 (.str (.int .u32 (.int .u32 .nil))))]⟩)] [[.tl (.str .nil), .tl (.str (.int .u32 (.int .u32 .nil)))]] (.sq (.nd) (.jn [9] [] [(0, ⟨[(7, .sl .n 300850), (8, .sl .n 300851)], [(300850, .ar 9 (.str .nil)), (300851, .ar 29 (.str (.int .u32 (.int .u32 .nil))))]⟩)] [[.tl (.str .nil), .tl (.str (.int .u32 (.int .u32 .nil)))]] (.jn [7, 8] [300500, 300501] [(0, ⟨[(40, .b)], []⟩)] [[.tb]] (.nd) (.nd)) (.nd))))) (.nd))))
theorem e32 (k : Nat) (y : Tup h32) : exec (P := Tryd.prog) D (lk rowsL) [] k (bodyOf Tryd.f32) n32 (fnE Tryd.f32 A32 [] (inOf A32 (ofTup h32 y))) (fnSt [] (inOf A32 (ofTup h32 y))) (leafR D (fnE Tryd.f32 A32 [] (inOf A32 (ofTup h32 y))) Tryd.f32.results.toList (R32.map (·.h)) R32) = F32 k y.1 y.2.1 y.2.2 := by kernel_rfl
noncomputable def C32 (k : Nat) : Con Tryd.prog := ⟨32, Tryd.f32, Tryd.func32, by kernel_rfl, by kernel_rfl, A32, h32, [], R32, fun y => F32 k y.1 y.2.1 y.2.2, fun y r h => con_ok good mixed (c := bodyOf Tryd.f32) Tryd.func32 (by kernel_rfl) n32 y ((e32 k y).trans h)⟩
noncomputable def L21_14 (k : Nat) (x1 : (List ByteArray)) (x2 : (List ByteArray)) (z20 : Int) : Option (Int ⊕ (Unit ⊕ Unit)) :=
cond (decide (z20 < (x1.length : Int))) (
(ix x1 z20).bind fun a21 =>
(ix x2 z20).bind fun a22 =>
(x2[z20.toNat]?).bind fun a23 =>
cond (!(a21.toList == a23.toList)) (
some (.inr (.inl ()))) (
some (.inl (IntKind.wrap .i64 (z20 + 1))))) (
some (.inr (.inr ())))
noncomputable def F21 (k : Nat) (x1 : (List ByteArray)) (x2 : (List ByteArray)) : Option Bool :=
cond ((x1.length : Int) != (x2.length : Int)) (
some false) (
(loopN (L21_14 k x1 x2) k 0).bind fun y24 => 
sel (fun y25 =>
some false) (fun y26 =>
some true) y24)
def A21 : CTpl := ⟨[.fz .u (.str .nil), .sl .u 1000000], [(1000000, .ar 9 (.str .nil))]⟩
def h21 : List HTy := [.tl (.str .nil), .tl (.str .nil)]
def R21 : List RTpl := [⟨.b, [], [.tb]⟩]
def n21 : An := .sq (.nd) (.sq (.nd) (.sq (.sq (.nd) (.lp [0, 1] [] ⟨[(5, .i .i64)], []⟩ [.ti] [(1, ⟨[(4, .lb false)], []⟩), (2, ⟨[], []⟩)] [[], []] (.sq (.nd) (.sq (.sq (.mk [] [0, 0, 3, 7, 0, 0, 48, 112, 255]) (.nd)) (.nd))))) (.nd)))
theorem e21 (k : Nat) (y : Tup h21) : exec (P := Tryd.prog) D (lk rowsL) [] k (bodyOf Tryd.f21) n21 (fnE Tryd.f21 A21 [1000000] (inOf A21 (ofTup h21 y))) (fnSt [1000000] (inOf A21 (ofTup h21 y))) (leafR D (fnE Tryd.f21 A21 [1000000] (inOf A21 (ofTup h21 y))) Tryd.f21.results.toList (R21.map (·.h)) R21) = F21 k y.1 y.2 := by kernel_rfl
noncomputable def C21 (k : Nat) : Con Tryd.prog := ⟨21, Tryd.f21, Tryd.func21, by kernel_rfl, by kernel_rfl, A21, h21, [1000000], R21, fun y => F21 k y.1 y.2, fun y r h => con_ok good mixed (c := bodyOf Tryd.f21) Tryd.func21 (by kernel_rfl) n21 y ((e21 k y).trans h)⟩
noncomputable def L42_6 (k : Nat) (x1 : ByteArray) (x2 : (List (ByteArray × Int × Int))) (z10 : Int) : Option (Int ⊕ (Int ⊕ Unit)) :=
cond (decide (z10 < (x2.length : Int))) (
(ix x2 z10).bind fun a11 =>
cond (a11.1.toList == x1.toList) (
some (.inr (.inl z10))) (
some (.inl (IntKind.wrap .i64 (z10 + 1))))) (
some (.inr (.inr ())))
noncomputable def F42 (k : Nat) (x1 : ByteArray) (x2 : (List (ByteArray × Int × Int))) : Option Int :=
(loopN (L42_6 k x1 x2) k 0).bind fun y12 => 
sel (fun y13 =>
some y13) (fun y14 =>
some (-1)) y12
def A42 : CTpl := ⟨[.pt 1000000 0, .s], [(1000000, .bx 58 [.fz .u (.str (.int .u32 (.int .u32 .nil)))])]⟩
def h42 : List HTy := [.ts, .tl (.str (.int .u32 (.int .u32 .nil)))]
def R42 : List RTpl := [⟨.i .i64, [], [.ti]⟩]
def n42 : An := .sq (.nd) (.sq (.sq (.nd) (.lp [0, 1] [] ⟨[(5, .i .i64)], []⟩ [.ti] [(1, ⟨[(4, .i .i64)], []⟩), (2, ⟨[], []⟩)] [[.ti], []] (.nd))) (.nd))
theorem e42 (k : Nat) (y : Tup h42) : exec (P := Tryd.prog) D (lk rowsL) [] k (bodyOf Tryd.f42) n42 (fnE Tryd.f42 A42 [1000000] (inOf A42 (ofTup h42 y))) (fnSt [1000000] (inOf A42 (ofTup h42 y))) (leafR D (fnE Tryd.f42 A42 [1000000] (inOf A42 (ofTup h42 y))) Tryd.f42.results.toList (R42.map (·.h)) R42) = F42 k y.1 y.2 := by kernel_rfl
noncomputable def C42 (k : Nat) : Con Tryd.prog := ⟨42, Tryd.f42, Tryd.func42, by kernel_rfl, by kernel_rfl, A42, h42, [1000000], R42, fun y => F42 k y.1 y.2, fun y r h => con_ok good mixed (c := bodyOf Tryd.f42) Tryd.func42 (by kernel_rfl) n42 y ((e42 k y).trans h)⟩
noncomputable def F33 (k : Nat) (x1 : ByteArray) (x2 : (List (ByteArray × Int × Int))) : Option (ByteArray × Int × Int × Bool) :=
(F42 k x1 x2).bind fun y4 => 
cond (decide (0 ≤ y4)) (
(ix x2 y4).bind fun a5 =>
some (a5.1, a5.2.1, a5.2.2, true)) (
some (ByteArray.empty, 0, 0, false))
def A33 : CTpl := ⟨[.pt 1000000 0, .s], [(1000000, .bx 58 [.fz .u (.str (.int .u32 (.int .u32 .nil)))])]⟩
def h33 : List HTy := [.ts, .tl (.str (.int .u32 (.int .u32 .nil)))]
def R33 : List RTpl := [⟨.tp [.ag [.s, .i .u32, .i .u32], .b], [], [.ts, .ti, .ti, .tb]⟩]
def n33 : An := .nd
theorem e33 (k : Nat) (y : Tup h33) : exec (P := Tryd.prog) D (lk rowsL) [C42 k] k (bodyOf Tryd.f33) n33 (fnE Tryd.f33 A33 [1000000] (inOf A33 (ofTup h33 y))) (fnSt [1000000] (inOf A33 (ofTup h33 y))) (leafR D (fnE Tryd.f33 A33 [1000000] (inOf A33 (ofTup h33 y))) Tryd.f33.results.toList (R33.map (·.h)) R33) = F33 k y.1 y.2 := by kernel_rfl
noncomputable def C33 (k : Nat) : Con Tryd.prog := ⟨33, Tryd.f33, Tryd.func33, by kernel_rfl, by kernel_rfl, A33, h33, [1000000], R33, fun y => F33 k y.1 y.2, fun y r h => con_ok good mixed (c := bodyOf Tryd.f33) Tryd.func33 (by kernel_rfl) n33 y ((e33 k y).trans h)⟩
noncomputable def L34_8 (k : Nat) (x1 : Int) (x2 : (List (ByteArray × Int × Int))) (z16 : (Int × (List ByteArray))) : Option ((Int × (List ByteArray)) ⊕ (List ByteArray)) :=
cond (decide (z16.1 < (x2.length : Int))) (
(((ix x2 z16.1).bind fun a17 =>
cond (a17.2.1 == x1) (
(ix x2 z16.1).bind fun a18 =>
grd (decide ((z16.2.length + [a18.1].length) * 16 ≤ 140737488355328)) <|
some (z16.2 ++ [a18.1])) (
some z16.2) : Option (List ByteArray))).bind fun y19 => 
some (.inl ((IntKind.wrap .i64 (z16.1 + 1)), y19))) (
some (.inr z16.2))
noncomputable def F34 (k : Nat) (x1 : Int) (x2 : (List (ByteArray × Int × Int))) : Option (List ByteArray) :=
(loopN (L34_8 k x1 x2) k (0, ([] : List ByteArray))).bind fun y20 => 
some y20
def A34 : CTpl := ⟨[.pt 1000000 0, .i .u32], [(1000000, .bx 58 [.fz .u (.str (.int .u32 (.int .u32 .nil)))])]⟩
def h34 : List HTy := [.ti, .tl (.str (.int .u32 (.int .u32 .nil)))]
def R34 : List RTpl := [⟨.sl .u 500000, [(500000, .ar 9 (.str .nil))], [.tl (.str .nil)]⟩]
def n34 : An := .sq (.nd) (.sq (.nd) (.sq (.sq (.nd) (.lp [0, 1] [] ⟨[(5, .sl .n 300400), (6, .i .i64)], [(300400, .ar 9 (.str .nil))]⟩ [.ti, .tl (.str .nil)] [(2, ⟨[(5, .sl .n 300425)], [(300425, .ar 9 (.str .nil))]⟩)] [[.tl (.str .nil)]] (.sq (.nd) (.jn [6] [] [(0, ⟨[(5, .sl .n 300750)], [(300750, .ar 9 (.str .nil))]⟩)] [[.tl (.str .nil)]] (.nd) (.nd))))) (.nd)))
theorem e34 (k : Nat) (y : Tup h34) : exec (P := Tryd.prog) D (lk rowsL) [] k (bodyOf Tryd.f34) n34 (fnE Tryd.f34 A34 [1000000] (inOf A34 (ofTup h34 y))) (fnSt [1000000] (inOf A34 (ofTup h34 y))) (leafR D (fnE Tryd.f34 A34 [1000000] (inOf A34 (ofTup h34 y))) Tryd.f34.results.toList (R34.map (·.h)) R34) = F34 k y.1 y.2 := by kernel_rfl
noncomputable def C34 (k : Nat) : Con Tryd.prog := ⟨34, Tryd.f34, Tryd.func34, by kernel_rfl, by kernel_rfl, A34, h34, [1000000], R34, fun y => F34 k y.1 y.2, fun y r h => con_ok good mixed (c := bodyOf Tryd.f34) Tryd.func34 (by kernel_rfl) n34 y ((e34 k y).trans h)⟩
noncomputable def L35_8 (k : Nat) (x1 : Int) (x2 : (List (ByteArray × Int × Int))) (z16 : (Int × Int)) : Option ((Int × Int) ⊕ Int) :=
cond (decide (z16.2 < (x2.length : Int))) (
(((ix x2 z16.2).bind fun a17 =>
cond (decide (a17.2.1 ≤ x1)) (
(ix x2 z16.2).bind fun a18 =>
some (mx z16.1 a18.2.2)) (
some z16.1) : Option Int)).bind fun y19 => 
some (.inl (y19, (IntKind.wrap .i64 (z16.2 + 1))))) (
some (.inr z16.1))
noncomputable def F35 (k : Nat) (x1 : Int) (x2 : (List (ByteArray × Int × Int))) : Option Int :=
(loopN (L35_8 k x1 x2) k (0, 0)).bind fun y20 => 
some y20
def A35 : CTpl := ⟨[.pt 1000000 0, .i .u32], [(1000000, .bx 58 [.fz .u (.str (.int .u32 (.int .u32 .nil)))])]⟩
def h35 : List HTy := [.ti, .tl (.str (.int .u32 (.int .u32 .nil)))]
def R35 : List RTpl := [⟨.i .u32, [], [.ti]⟩]
def n35 : An := .sq (.nd) (.sq (.nd) (.sq (.sq (.nd) (.lp [0, 1] [] ⟨[(5, .i .u32), (6, .i .i64)], []⟩ [.ti, .ti] [(2, ⟨[(5, .i .u32)], []⟩)] [[.ti]] (.sq (.nd) (.jn [6] [] [(0, ⟨[(5, .i .u32)], []⟩)] [[.ti]] (.nd) (.nd))))) (.nd)))
theorem e35 (k : Nat) (y : Tup h35) : exec (P := Tryd.prog) D (lk rowsL) [] k (bodyOf Tryd.f35) n35 (fnE Tryd.f35 A35 [1000000] (inOf A35 (ofTup h35 y))) (fnSt [1000000] (inOf A35 (ofTup h35 y))) (leafR D (fnE Tryd.f35 A35 [1000000] (inOf A35 (ofTup h35 y))) Tryd.f35.results.toList (R35.map (·.h)) R35) = F35 k y.1 y.2 := by kernel_rfl
noncomputable def C35 (k : Nat) : Con Tryd.prog := ⟨35, Tryd.f35, Tryd.func35, by kernel_rfl, by kernel_rfl, A35, h35, [1000000], R35, fun y => F35 k y.1 y.2, fun y r h => con_ok good mixed (c := bodyOf Tryd.f35) Tryd.func35 (by kernel_rfl) n35 y ((e35 k y).trans h)⟩
noncomputable def L43_8 (k : Nat) (x1 : ByteArray) (x2 : (List (ByteArray × Int × Int))) (z16 : (Int × (List (ByteArray × Int × Int)))) : Option ((Int × (List (ByteArray × Int × Int))) ⊕ (List (ByteArray × Int × Int))) :=
cond (decide (z16.1 < (x2.length : Int))) (
(((ix x2 z16.1).bind fun a17 =>
cond (!(a17.1.toList == x1.toList)) (
(ix x2 z16.1).bind fun a18 =>
grd (decide ((z16.2.length + [(a18.1, a18.2.1, a18.2.2)].length) * 24 ≤ 140737488355328)) <|
some (z16.2 ++ [(a18.1, a18.2.1, a18.2.2)])) (
some z16.2) : Option (List (ByteArray × Int × Int)))).bind fun y19 => 
some (.inl ((IntKind.wrap .i64 (z16.1 + 1)), y19))) (
some (.inr z16.2))
noncomputable def F43 (k : Nat) (x1 : ByteArray) (x2 : (List (ByteArray × Int × Int))) : Option (List (ByteArray × Int × Int)) :=
(loopN (L43_8 k x1 x2) k (0, ([] : List (ByteArray × Int × Int)))).bind fun y20 => 
some y20
def A43 : CTpl := ⟨[.pt 1000000 0, .s], [(1000000, .bx 58 [.fz .u (.str (.int .u32 (.int .u32 .nil)))])]⟩
def h43 : List HTy := [.ts, .tl (.str (.int .u32 (.int .u32 .nil)))]
def R43 : List RTpl := [⟨.sl .u 500000, [(500000, .ar 29 (.str (.int .u32 (.int .u32 .nil))))], [.tl (.str (.int .u32 (.int .u32 .nil)))]⟩]
def n43 : An := .sq (.nd) (.sq (.nd) (.sq (.sq (.nd) (.lp [0, 1] [] ⟨[(5, .sl .n 300400), (6, .i .i64)], [(300400, .ar 29 (.str (.int .u32 (.int .u32 .nil))))]⟩ [.ti, .tl (.str (.int .u32 (.int .u32 .nil)))] [(2, ⟨[(5, .sl .n 300425)], [(300425, .ar 29 (.str (.int .u32 (.int .u32 .nil))))]⟩)] [[.tl (.str (.int .u32 (.int .u32 .nil)))]] (.sq (.nd) (.jn [6] [] [(0, ⟨[(5, .sl .n 300750)], [(300750, .ar 29 (.str (.int .u32 (.int .u32 .nil))))]⟩)] [[.tl (.str (.int .u32 (.int .u32 .nil)))]] (.nd) (.nd))))) (.nd)))
theorem e43 (k : Nat) (y : Tup h43) : exec (P := Tryd.prog) D (lk rowsL) [] k (bodyOf Tryd.f43) n43 (fnE Tryd.f43 A43 [1000000] (inOf A43 (ofTup h43 y))) (fnSt [1000000] (inOf A43 (ofTup h43 y))) (leafR D (fnE Tryd.f43 A43 [1000000] (inOf A43 (ofTup h43 y))) Tryd.f43.results.toList (R43.map (·.h)) R43) = F43 k y.1 y.2 := by kernel_rfl
noncomputable def C43 (k : Nat) : Con Tryd.prog := ⟨43, Tryd.f43, Tryd.func43, by kernel_rfl, by kernel_rfl, A43, h43, [1000000], R43, fun y => F43 k y.1 y.2, fun y r h => con_ok good mixed (c := bodyOf Tryd.f43) Tryd.func43 (by kernel_rfl) n43 y ((e43 k y).trans h)⟩
noncomputable def L36_30 (k : Nat) (a127 : (ByteArray × Bool × ByteArray)) (y128 : (List (ByteArray × Int × Int))) (z129 : Int) : Option (Int ⊕ Int) :=
((cond (decide (z129 < (y128.length : Int))) (
(ix y128 z129).bind fun a130 =>
(y128[z129.toNat]?).bind fun a131 =>
(F44 k a131.1 a127.1).bind fun y132 => 
some y132) (
some false) : Option Bool)).bind fun y133 => 
cond y133 (
some (.inl (IntKind.wrap .i64 (z129 + 1)))) (
some (.inr z129))
noncomputable def L36_5 (k : Nat) (x1 : Int) (x3 : Int) (x4 : (List (ByteArray × Bool × ByteArray))) (z126 : (Int × (List (ByteArray × Int × Int)))) : Option ((Int × (List (ByteArray × Int × Int))) ⊕ (List (ByteArray × Int × Int))) :=
cond (decide (z126.1 < (x4.length : Int))) (
(((ix x4 z126.1).bind fun a127 =>
(F43 k a127.1 z126.2).bind fun y128 => 
cond a127.2.1 (
some y128) (
(loopN (L36_30 k a127 y128) k 0).bind fun y134 => 
grd (bnds (y128.length : Int) 0 y134) <|
grd (decide ((([] : List (ByteArray × Int × Int)).length + ((y128.drop 0).take (y134.toNat - 0)).length) * 24 ≤ 140737488355328)) <|
grd (decide (((([] : List (ByteArray × Int × Int)) ++ ((y128.drop 0).take (y134.toNat - 0))).length + [(a127.1, x1, x3)].length) * 24 ≤ 140737488355328)) <|
grd (bnds (y128.length : Int) y134 (y128.length : Int)) <|
grd (decide ((((([] : List (ByteArray × Int × Int)) ++ ((y128.drop 0).take (y134.toNat - 0))) ++ [(a127.1, x1, x3)]).length + ((y128.drop y134.toNat).take (((y128.length : Int).toNat) - y134.toNat)).length) * 24 ≤ 140737488355328)) <|
some (((([] : List (ByteArray × Int × Int)) ++ ((y128.drop 0).take (y134.toNat - 0))) ++ [(a127.1, x1, x3)]) ++ ((y128.drop y134.toNat).take (((y128.length : Int).toNat) - y134.toNat)))) : Option (List (ByteArray × Int × Int)))).bind fun y135 => 
some (.inl ((IntKind.wrap .i64 (z126.1 + 1)), y135))) (
some (.inr z126.2))
noncomputable def F36 (k : Nat) (x1 : Int) (x2 : Int) (x3 : Int) (x4 : (List (ByteArray × Bool × ByteArray))) (x5 : (List (ByteArray × Int × Int))) : Option (List (ByteArray × Int × Int)) :=
(loopN (L36_5 k x1 x3 x4) k (0, x5)).bind fun y136 => 
some y136
def A36 : CTpl := ⟨[.pt 1000000 0, .ag [.i .u32, .i .u32, .i .u32, .fz .u (.str (.bool (.str .nil)))]], [(1000000, .bx 58 [.fz .u (.str (.int .u32 (.int .u32 .nil)))])]⟩
def h36 : List HTy := [.ti, .ti, .ti, .tl (.str (.bool (.str .nil))), .tl (.str (.int .u32 (.int .u32 .nil)))]
def R36 : List RTpl := [⟨.tp [], [(1000000, .bx 58 [.fz .u (.str (.int .u32 (.int .u32 .nil)))])], [.tl (.str (.int .u32 (.int .u32 .nil)))]⟩]
def n36 : An := .sq (.nd) (.sq (.nd) (.lp [0, 3] [3] ⟨[(4, .i .i64)], [(1000000, .bx 58 [.fz .u (.str (.int .u32 (.int .u32 .nil)))])]⟩ [.ti, .tl (.str (.int .u32 (.int .u32 .nil)))] [(2, ⟨[], [(1000000, .bx 58 [.fz .u (.str (.int .u32 (.int .u32 .nil)))])]⟩)] [[.tl (.str (.int .u32 (.int .u32 .nil)))]] (.sq (.nd) (.jn [4] [] [(0, ⟨[], [(1000000, .bx 58 [.sl .u 300600]), (300600, .ar 29 (.str (.int .u32 (.int .u32 .nil))))]⟩)] [[.tl (.str (.int .u32 (.int .u32 .nil)))]] (.sq (.nd) (.sq (.nd) (.sq (.nd) (.sq (.nd) (.sq (.lp [5, 6] [5, 402300, 1000000] ⟨[(7, .i .i64)], []⟩ [.ti] [(4, ⟨[(7, .i .i64)], []⟩)] [[.ti]] (.sq (.jn [7] [] [(0, ⟨[(43, .b)], []⟩)] [[.tb]] (.mk [] [0, 0, 2, 7, 15, 31, 31, 127, 255, 511, 31, 1055, 4095, 8191]) (.nd)) (.nd))) (.mk [] [0, 0, 0, 6, 14, 0, 32, 0, 128, 0, 512, 2016, 4064, 8190, 0, 0, 49152, 131070, 262143, 524287, 1048575])))))) (.nd)))))
theorem e36 (k : Nat) (y : Tup h36) : exec (P := Tryd.prog) D (lk rowsL) [C43 k, C44 k] k (bodyOf Tryd.f36) n36 (fnE Tryd.f36 A36 [] (inOf A36 (ofTup h36 y))) (fnSt [] (inOf A36 (ofTup h36 y))) (leafR D (fnE Tryd.f36 A36 [] (inOf A36 (ofTup h36 y))) Tryd.f36.results.toList (R36.map (·.h)) R36) = F36 k y.1 y.2.1 y.2.2.1 y.2.2.2.1 y.2.2.2.2 := by kernel_rfl
noncomputable def C36 (k : Nat) : Con Tryd.prog := ⟨36, Tryd.f36, Tryd.func36, by kernel_rfl, by kernel_rfl, A36, h36, [], R36, fun y => F36 k y.1 y.2.1 y.2.2.1 y.2.2.2.1 y.2.2.2.2, fun y r h => con_ok good mixed (c := bodyOf Tryd.f36) Tryd.func36 (by kernel_rfl) n36 y ((e36 k y).trans h)⟩
noncomputable def F20 (k : Nat) (x1 : Int) (x2 : Int) (x3 : Int) (x4 : (List (Int × Bool × ByteArray))) (x5 : (List (ByteArray × Bool × ByteArray))) (x6 : Bool) (x7 : (List (ByteArray × Int × Int))) (x8 : (List (ByteArray × (ByteArray × Int × Int)))) : Option (Bool × (List (ByteArray × Int × Int)) × (List (ByteArray × (ByteArray × Int × Int)))) :=
((cond (!x6) (
some (x1, (x2.tmod 20), (x3.tmod 20), x4, x5, x6)) (
some (x1, x2, x3, x4, x5, x6)) : Option (Int × Int × Int × (List (Int × Bool × ByteArray)) × (List (ByteArray × Bool × ByteArray)) × Bool))).bind fun y1 => 
(F9 k (IntKind.wrap .i64 (y1.2.1.tmod 100))).bind fun y3 => 
(F25 k y1.1 9).bind fun y19 => 
cond (y19 == 5) (
((cond (!y1.2.2.2.2.2) (
some (y1.1, (y1.2.1.tmod 5), (y1.2.2.1.tmod 5), y1.2.2.2.1, y1.2.2.2.2.1, y1.2.2.2.2.2)) (
some (y1.1, y1.2.1, y1.2.2.1, y1.2.2.2.1, y1.2.2.2.2.1, y1.2.2.2.2.2)) : Option (Int × Int × Int × (List (Int × Bool × ByteArray)) × (List (ByteArray × Bool × ByteArray)) × Bool))).bind fun y20 => 
(F14 k y20.2.1 y20.2.2.1 x8).bind fun y21 => 
(F32 k y20.2.1 y20.2.2.1 x7).bind fun y22 => 
(F21 k y21.1 y22.1).bind fun y23 => 
some (y23, y22.2, y21.2)) (
cond (y19 == 6) (
(F12 k y3 x8).bind fun y24 => 
(F33 k y3 x7).bind fun y25 => 
cond ((y24.1.toList == y25.1.toList) && ((y24.2.1 == y25.2.1) && ((y24.2.2.1 == y25.2.2.1) && true))) (
some ((y24.2.2.2 == y25.2.2.2), x7, x8)) (
some (false, x7, x8))) (
cond (y19 == 7) (
(F13 k y1.2.1 x8).bind fun y26 => 
(F34 k y1.2.1 x7).bind fun y27 => 
(F21 k y26.1 y27).bind fun y28 => 
some (y28, x7, y26.2)) (
cond (y19 == 8) (
(F16 k y1.2.1 x8).bind fun y29 => 
(F35 k y1.2.1 x7).bind fun y30 => 
some ((y29.1 == y30), x7, y29.2)) (
(F19 k y1.1 y1.2.1 y1.2.2.1 y1.2.2.2.1 y1.2.2.2.2.1 y1.2.2.2.2.2).bind fun y33 => 
(F18 k y33.1 y33.2.1 y33.2.2.1 y33.2.2.2 x8).bind fun y34 => 
(F19 k y1.1 y1.2.1 y1.2.2.1 y1.2.2.2.1 y1.2.2.2.2.1 y1.2.2.2.2.2).bind fun y37 => 
(F36 k y37.1 y37.2.1 y37.2.2.1 y37.2.2.2 x7).bind fun y38 => 
some (true, y38, y34)))))
def A20 : CTpl := ⟨[.pt 1000000 0, .pt 1000001 0, .ag [.i .i64, .i .u32, .i .u32, .fz .u (.int .i64 (.bool (.str .nil))), .fz .u (.str (.bool (.str .nil))), .b]], [(1000000, .bx 72 [.mp 1000002]), (1000001, .bx 58 [.fz .u (.str (.int .u32 (.int .u32 .nil)))]), (1000002, .mp ⟨.s, true, (.str (.int .u32 (.int .u32 .nil)))⟩)]⟩
def h20 : List HTy := [.ti, .ti, .ti, .tl (.int .i64 (.bool (.str .nil))), .tl (.str (.bool (.str .nil))), .tb, .tl (.str (.int .u32 (.int .u32 .nil))), .tm ⟨.s, true, (.str (.int .u32 (.int .u32 .nil)))⟩]
def R20 : List RTpl := [⟨.b, [(1000000, .bx 72 [.mp 1000002]), (1000001, .bx 58 [.fz .u (.str (.int .u32 (.int .u32 .nil)))]), (1000002, .mp ⟨.s, true, (.str (.int .u32 (.int .u32 .nil)))⟩)], [.tb, .tl (.str (.int .u32 (.int .u32 .nil))), .tm ⟨.s, true, (.str (.int .u32 (.int .u32 .nil)))⟩]⟩]
def n20 : An := .sq (.nd) (.jn [0, 1, 5] [1000000, 1000001, 1000002] [(0, ⟨[], [(5, .bx 49 [.i .i64, .i .u32, .i .u32, .fz .u (.int .i64 (.bool (.str .nil))), .fz .u (.str (.bool (.str .nil))), .b])]⟩)] [[.ti, .ti, .ti, .tl (.int .i64 (.bool (.str .nil))), .tl (.str (.bool (.str .nil))), .tb]] (.nd) (.sq (.nd) (.sq (.sq (.nd) (.sq (.nd) (.sq (.jn [0, 1, 5] [1000000, 1000001, 1000002] [(0, ⟨[], [(5, .bx 49 [.i .i64, .i .u32, .i .u32, .fz .u (.int .i64 (.bool (.str .nil))), .fz .u (.str (.bool (.str .nil))), .b])]⟩)] [[.ti, .ti, .ti, .tl (.int .i64 (.bool (.str .nil))), .tl (.str (.bool (.str .nil))), .tb]] (.nd) (.sq (.mk [] [0, 0, 2, 0, 8, 31, 0, 0, 128, 0, 512, 2047, 4095, 8191]) (.nd))) (.sq (.nd) (.sq (.nd) (.sq (.nd) (.sq (.sq (.mk [] [0, 0, 2, 7, 0, 0, 32, 127, 255, 511]) (.nd)) (.sq (.nd) (.sq (.sq (.mk [] [0, 0, 2, 7, 0, 0, 32, 127, 255, 511]) (.nd)) (.nd)))))))))) (.nd))))
theorem e20 (k : Nat) (y : Tup h20) : exec (P := Tryd.prog) D (lk rowsL) [C9 k, C25 k, C14 k, C32 k, C21 k, C12 k, C33 k, C13 k, C34 k, C16 k, C35 k, C19 k, C18 k, C36 k] k (bodyOf Tryd.f20) n20 (fnE Tryd.f20 A20 [] (inOf A20 (ofTup h20 y))) (fnSt [] (inOf A20 (ofTup h20 y))) (leafR D (fnE Tryd.f20 A20 [] (inOf A20 (ofTup h20 y))) Tryd.f20.results.toList (R20.map (·.h)) R20) = F20 k y.1 y.2.1 y.2.2.1 y.2.2.2.1 y.2.2.2.2.1 y.2.2.2.2.2.1 y.2.2.2.2.2.2.1 y.2.2.2.2.2.2.2 := by kernel_rfl
noncomputable def C20 (k : Nat) : Con Tryd.prog := ⟨20, Tryd.f20, Tryd.func20, by kernel_rfl, by kernel_rfl, A20, h20, [], R20, fun y => F20 k y.1 y.2.1 y.2.2.1 y.2.2.2.1 y.2.2.2.2.1 y.2.2.2.2.2.1 y.2.2.2.2.2.2.1 y.2.2.2.2.2.2.2, fun y r h => con_ok good mixed (c := bodyOf Tryd.f20) Tryd.func20 (by kernel_rfl) n20 y ((e20 k y).trans h)⟩
noncomputable def F37 (k : Nat) (x1 : ByteArray) (x2 : Int) (x3 : Int) : Option Bool :=
some true
def A37 : CTpl := ⟨[.ag [.s, .i .u32, .i .u32]], []⟩
def h37 : List HTy := [.ts, .ti, .ti]
def R37 : List RTpl := [⟨.b, [], [.tb]⟩]
def n37 : An := .nd
theorem e37 (k : Nat) (y : Tup h37) : exec (P := Tryd.prog) D (lk rowsL) [] k (bodyOf Tryd.f37) n37 (fnE Tryd.f37 A37 [] (inOf A37 (ofTup h37 y))) (fnSt [] (inOf A37 (ofTup h37 y))) (leafR D (fnE Tryd.f37 A37 [] (inOf A37 (ofTup h37 y))) Tryd.f37.results.toList (R37.map (·.h)) R37) = F37 k y.1 y.2.1 y.2.2 := by kernel_rfl
noncomputable def C37 (k : Nat) : Con Tryd.prog := ⟨37, Tryd.f37, Tryd.func37, by kernel_rfl, by kernel_rfl, A37, h37, [], R37, fun y => F37 k y.1 y.2.1 y.2.2, fun y r h => con_ok good mixed (c := bodyOf Tryd.f37) Tryd.func37 (by kernel_rfl) n37 y ((e37 k y).trans h)⟩
noncomputable def L28_2_16 (k : Nat) {R : Type} (z16 : (((List (ByteArray × (ByteArray × Int × Int))) × (List (ByteArray × (ByteArray × Int × Int)))) × (List ByteArray))) (Kin : (((List (ByteArray × (ByteArray × Int × Int))) × (List (ByteArray × (ByteArray × Int × Int)))) × (List ByteArray)) → Option R) (Kout : ((List (ByteArray × (ByteArray × Int × Int))) × (List ByteArray)) → Option R) : Option R :=
cond z16.1.2.isEmpty (
Kout (z16.1.1, z16.2)) (
anyL z16.1.2 fun j17 => fun a18 =>
(F37 k a18.2.1 a18.2.2.1 a18.2.2.2).bind fun y19 => 
cond y19 (
grd (decide ((z16.2.length + [a18.1].length) * 16 ≤ 140737488355328)) <|
Kin ((z16.1.1, (List.eraseIdx z16.1.2 j17)), (z16.2 ++ [a18.1]))) (
Kin ((z16.1.1, (List.eraseIdx z16.1.2 j17)), z16.2)))
noncomputable def F28_2 (k : Nat) (x1 : (List (ByteArray × (ByteArray × Int × Int)))) : Option ((List ByteArray) × (List (ByteArray × (ByteArray × Int × Int)))) :=
loopC (L28_2_16 k) k ((x1, x1), ([] : List ByteArray)) fun y20 => 
(F41 k y20.2).bind fun y21 => 
some (y21, y20.1)
def A28_2 : CTpl := ⟨[.pt 1000000 0, .c (.func (.func 37) #[] #[])], [(1000000, .bx 72 [.mp 1000001]), (1000001, .mp ⟨.s, true, (.str (.int .u32 (.int .u32 .nil)))⟩)]⟩
def h28_2 : List HTy := [.tm ⟨.s, true, (.str (.int .u32 (.int .u32 .nil)))⟩]
def R28_2 : List RTpl := [⟨.fz .u (.str .nil), [(1000000, .bx 72 [.mp 1000001]), (1000001, .mp ⟨.s, true, (.str (.int .u32 (.int .u32 .nil)))⟩)], [.tl (.str .nil), .tm ⟨.s, true, (.str (.int .u32 (.int .u32 .nil)))⟩]⟩]
def n28_2 : An := .sq (.nd) (.sq (.nd) (.sq (.nd) (.sq (.sq (.nd) (.lc [1, 14] [14, 1000000] ⟨[(5, .sl .n 300800)], [(1000001, .mq ⟨.s, true, (.str (.int .u32 (.int .u32 .nil)))⟩ 14), (300800, .ar 9 (.str .nil))]⟩ [.tq ⟨.s, true, (.str (.int .u32 (.int .u32 .nil)))⟩, .tl (.str .nil)] [(2, ⟨[(5, .sl .n 300825)], [(1000001, .mp ⟨.s, true, (.str (.int .u32 (.int .u32 .nil)))⟩), (300825, .ar 9 (.str .nil))]⟩)] [[.tm ⟨.s, true, (.str (.int .u32 (.int .u32 .nil)))⟩, .tl (.str .nil)]] (.nd))) (.sq (.fr [(1, 300825)]) (.nd)))))
theorem e28_2 (k : Nat) (y : Tup h28_2) : exec (P := Tryd.prog) D (lk rowsL) [C37 k, C41 k] k (bodyOf Tryd.f28) n28_2 (fnE Tryd.f28 A28_2 [] (inOf A28_2 (ofTup h28_2 y))) (fnSt [] (inOf A28_2 (ofTup h28_2 y))) (leafR D (fnE Tryd.f28 A28_2 [] (inOf A28_2 (ofTup h28_2 y))) Tryd.f28.results.toList (R28_2.map (·.h)) R28_2) = F28_2 k y := by kernel_rfl
noncomputable def C28_2 (k : Nat) : Con Tryd.prog := ⟨28, Tryd.f28, Tryd.func28, by kernel_rfl, by kernel_rfl, A28_2, h28_2, [], R28_2, fun y => F28_2 k y, fun y r h => con_ok good mixed (c := bodyOf Tryd.f28) Tryd.func28 (by kernel_rfl) n28_2 y ((e28_2 k y).trans h)⟩
noncomputable def F22 (k : Nat) (x1 : (List (ByteArray × (ByteArray × Int × Int)))) : Option ((List ByteArray) × (List (ByteArray × (ByteArray × Int × Int)))) :=
(F28_2 k x1).bind fun y1 => 
some (y1.1, y1.2)
def A22 : CTpl := ⟨[.pt 1000000 0], [(1000000, .bx 72 [.mp 1000001]), (1000001, .mp ⟨.s, true, (.str (.int .u32 (.int .u32 .nil)))⟩)]⟩
def h22 : List HTy := [.tm ⟨.s, true, (.str (.int .u32 (.int .u32 .nil)))⟩]
def R22 : List RTpl := [⟨.fz .u (.str .nil), [(1000000, .bx 72 [.mp 1000001]), (1000001, .mp ⟨.s, true, (.str (.int .u32 (.int .u32 .nil)))⟩)], [.tl (.str .nil), .tm ⟨.s, true, (.str (.int .u32 (.int .u32 .nil)))⟩]⟩]
def n22 : An := .nd
theorem e22 (k : Nat) (y : Tup h22) : exec (P := Tryd.prog) D (lk rowsL) [C28_2 k] k (bodyOf Tryd.f22) n22 (fnE Tryd.f22 A22 [] (inOf A22 (ofTup h22 y))) (fnSt [] (inOf A22 (ofTup h22 y))) (leafR D (fnE Tryd.f22 A22 [] (inOf A22 (ofTup h22 y))) Tryd.f22.results.toList (R22.map (·.h)) R22) = F22 k y := by kernel_rfl
noncomputable def C22 (k : Nat) : Con Tryd.prog := ⟨22, Tryd.f22, Tryd.func22, by kernel_rfl, by kernel_rfl, A22, h22, [], R22, fun y => F22 k y, fun y r h => con_ok good mixed (c := bodyOf Tryd.f22) Tryd.func22 (by kernel_rfl) n22 y ((e22 k y).trans h)⟩
noncomputable def L23_8 (k : Nat) (x1 : (List (ByteArray × Int × Int))) (z8 : (Int × (List ByteArray))) : Option ((Int × (List ByteArray)) ⊕ (List ByteArray)) :=
cond (decide (z8.1 < (x1.length : Int))) (
(ix x1 z8.1).bind fun a9 =>
grd (decide ((z8.2.length + [a9.1].length) * 16 ≤ 140737488355328)) <|
some (.inl ((IntKind.wrap .i64 (z8.1 + 1)), (z8.2 ++ [a9.1])))) (
some (.inr z8.2))
noncomputable def F23 (k : Nat) (x1 : (List (ByteArray × Int × Int))) : Option (List ByteArray) :=
(loopN (L23_8 k x1) k (0, ([] : List ByteArray))).bind fun y10 => 
some y10
def A23 : CTpl := ⟨[.pt 1000000 0], [(1000000, .bx 58 [.fz .u (.str (.int .u32 (.int .u32 .nil)))])]⟩
def h23 : List HTy := [.tl (.str (.int .u32 (.int .u32 .nil)))]
def R23 : List RTpl := [⟨.sl .u 500000, [(500000, .ar 9 (.str .nil))], [.tl (.str .nil)]⟩]
def n23 : An := .sq (.nd) (.sq (.nd) (.sq (.sq (.nd) (.lp [0] [] ⟨[(3, .sl .n 300400), (4, .i .i64)], [(300400, .ar 9 (.str .nil))]⟩ [.ti, .tl (.str .nil)] [(2, ⟨[(3, .sl .n 300425)], [(300425, .ar 9 (.str .nil))]⟩)] [[.tl (.str .nil)]] (.nd))) (.nd)))
theorem e23 (k : Nat) (y : Tup h23) : exec (P := Tryd.prog) D (lk rowsL) [] k (bodyOf Tryd.f23) n23 (fnE Tryd.f23 A23 [1000000] (inOf A23 (ofTup h23 y))) (fnSt [1000000] (inOf A23 (ofTup h23 y))) (leafR D (fnE Tryd.f23 A23 [1000000] (inOf A23 (ofTup h23 y))) Tryd.f23.results.toList (R23.map (·.h)) R23) = F23 k y := by kernel_rfl
noncomputable def C23 (k : Nat) : Con Tryd.prog := ⟨23, Tryd.f23, Tryd.func23, by kernel_rfl, by kernel_rfl, A23, h23, [1000000], R23, fun y => F23 k y, fun y r h => con_ok good mixed (c := bodyOf Tryd.f23) Tryd.func23 (by kernel_rfl) n23 y ((e23 k y).trans h)⟩
noncomputable def L6_18 (k : Nat) (x1 : (List (Int × Int × Int × (List (Int × Bool × ByteArray)) × (List (ByteArray × Bool × ByteArray)) × Bool))) (z76 : (Int × (List (ByteArray × Int × Int)) × (List (ByteArray × (ByteArray × Int × Int))))) : Option ((Int × (List (ByteArray × Int × Int)) × (List (ByteArray × (ByteArray × Int × Int)))) ⊕ (((List (ByteArray × Int × Int)) × (List (ByteArray × (ByteArray × Int × Int)))) ⊕ ((List (ByteArray × Int × Int)) × (List (ByteArray × (ByteArray × Int × Int)))))) :=
((cond (decide (z76.1 < (x1.length : Int))) (
some (decide (z76.1 < 40))) (
some false) : Option Bool)).bind fun y77 => 
cond y77 (
(((ix x1 z76.1).bind fun a78 =>
(F20 k a78.1 a78.2.1 a78.2.2.1 a78.2.2.2.1 a78.2.2.2.2.1 a78.2.2.2.2.2 z76.2.1 z76.2.2).bind fun y79 => 
cond (!y79.1) (
some (true, y79.2.1, y79.2.2)) (
(F15 k y79.2.2).bind fun y80 => 
cond (y80 != (y79.2.1.length : Int)) (
some (true, y79.2.1, y79.2.2)) (
(F22 k y79.2.2).bind fun y81 => 
(F23 k y79.2.1).bind fun y82 => 
(F21 k y81.1 y82).bind fun y83 => 
some ((!y83), y79.2.1, y81.2))) : Option (Bool × (List (ByteArray × Int × Int)) × (List (ByteArray × (ByteArray × Int × Int)))))).bind fun y84 => 
cond y84.1 (
some (.inr (.inl (y84.2.1, y84.2.2)))) (
some (.inl ((IntKind.wrap .i64 (z76.1 + 1)), y84.2.1, y84.2.2)))) (
some (.inr (.inr (z76.2.1, z76.2.2))))
noncomputable def F6 (k : Nat) (x1 : (List (Int × Int × Int × (List (Int × Bool × ByteArray)) × (List (ByteArray × Bool × ByteArray)) × Bool))) : Option Bool :=
(F17 k).bind fun y2 => 
(((F8 k).bind fun y6 => 
cond (!y6) (
some true) (
some false) : Option Bool)).bind fun y7 => 
cond y7 (
some false) (
(loopN (L6_18 k x1) k (0, ([] : List (ByteArray × Int × Int)), y2)).bind fun y85 => 
sel (fun y86 =>
some false) (fun y87 =>
some true) y85)
def A6 : CTpl := ⟨[.fz .u (.int .i64 (.int .u32 (.int .u32 (.sl (.int .i64 (.bool (.str .nil))) (.sl (.str (.bool (.str .nil))) (.bool .nil))))))], []⟩
def h6 : List HTy := [.tl (.int .i64 (.int .u32 (.int .u32 (.sl (.int .i64 (.bool (.str .nil))) (.sl (.str (.bool (.str .nil))) (.bool .nil))))))]
def R6 : List RTpl := [⟨.b, [], [.tb]⟩]
def n6 : An := .sq (.nd) (.sq (.nd) (.sq (.jn [0, 3] [400600, 400601] [(0, ⟨[(12, .b)], []⟩)] [[.tb]] (.nd) (.nd)) (.sq (.nd) (.sq (.sq (.nd) (.lp [0, 3, 4] [] ⟨[(5, .i .i64)], [(400600, .bx 72 [.mp 400601]), (14, .bx 58 [.fz .u (.str (.int .u32 (.int .u32 .nil)))]), (400601, .mp ⟨.s, true, (.str (.int .u32 (.int .u32 .nil)))⟩)]⟩ [.ti, .tl (.str (.int .u32 (.int .u32 .nil))), .tm ⟨.s, true, (.str (.int .u32 (.int .u32 .nil)))⟩] [(1, ⟨[(2, .lb false)], [(400600, .bx 72 [.mp 400601]), (14, .bx 58 [.fz .u (.str (.int .u32 (.int .u32 .nil)))]), (400601, .mp ⟨.s, true, (.str (.int .u32 (.int .u32 .nil)))⟩)]⟩), (2, ⟨[], [(400600, .bx 72 [.mp 400601]), (14, .bx 58 [.fz .u (.str (.int .u32 (.int .u32 .nil)))]), (400601, .mp ⟨.s, true, (.str (.int .u32 (.int .u32 .nil)))⟩)]⟩)] [[.tl (.str (.int .u32 (.int .u32 .nil))), .tm ⟨.s, true, (.str (.int .u32 (.int .u32 .nil)))⟩], [.tl (.str (.int .u32 (.int .u32 .nil))), .tm ⟨.s, true, (.str (.int .u32 (.int .u32 .nil)))⟩]] (.sq (.jn [5] [14, 400600, 400601] [(0, ⟨[(22, .b)], []⟩)] [[.tb]] (.nd) (.nd)) (.sq (.jn [5] [] [(0, ⟨[(50, .b)], [(400600, .bx 72 [.mp 400601]), (14, .bx 58 [.fz .u (.str (.int .u32 (.int .u32 .nil)))]), (400601, .mp ⟨.s, true, (.str (.int .u32 (.int .u32 .nil)))⟩)]⟩)] [[.tb, .tl (.str (.int .u32 (.int .u32 .nil))), .tm ⟨.s, true, (.str (.int .u32 (.int .u32 .nil)))⟩]] (.mk [] [0, 0, 0, 0, 12, 28, 63, 127, 255, 511, 1023, 511, 2559, 6655, 14847, 31231, 65535, 131071, 262143, 524287, 1048575, 524287, 4194303, 8388607, 16777215, 33554431]) (.nd)) (.nd))))) (.nd)))))
theorem e6 (k : Nat) (y : Tup h6) : exec (P := Tryd.prog) D (lk rowsL) [C17 k, C8 k, C20 k, C15 k, C22 k, C23 k, C21 k] k (bodyOf Tryd.f6) n6 (fnE Tryd.f6 A6 [] (inOf A6 (ofTup h6 y))) (fnSt [] (inOf A6 (ofTup h6 y))) (leafR D (fnE Tryd.f6 A6 [] (inOf A6 (ofTup h6 y))) Tryd.f6.results.toList (R6.map (·.h)) R6) = F6 k y := by kernel_rfl
noncomputable def C6 (k : Nat) : Con Tryd.prog := ⟨6, Tryd.f6, Tryd.func6, by kernel_rfl, by kernel_rfl, A6, h6, [], R6, fun y => F6 k y, fun y r h => con_ok good mixed (c := bodyOf Tryd.f6) Tryd.func6 (by kernel_rfl) n6 y ((e6 k y).trans h)⟩
end Go.Proofs.YtnjkfchgakpjgaaDoor.N

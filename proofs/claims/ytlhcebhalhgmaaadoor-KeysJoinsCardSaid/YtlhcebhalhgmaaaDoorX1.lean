/- What the functions compute, natively, and that they do. Printed by a program (wip/xg). -/
import Derived.Test.YtlhcebhalhgmaaaDoorMc3
import Derived.Test.YtlhcebhalhgmaaaDoorProg
import Derived.Test.YtlhcebhalhgmaaaDoorShelf
namespace Go.Proofs.YtlhcebhalhgmaaaDoor.N
open Go Go.RowKit Go.Proofs.YtlhcebhalhgmaaaDoor.Mc Go.Proofs
set_option maxRecDepth 100000
set_option maxHeartbeats 0
set_option linter.unusedVariables false
noncomputable abbrev D := decOf Tryd.prog
theorem good : Go.Proofs.YtlhcebhalhgmaaaDoor.Mc.Good Tryd.prog D := good_of _
theorem mixed : Tryd.prog.follows .mixedOrders = true := by kernel_rfl
def rowsL : List (Nat × Row) := [(22, (.int .i64 .nil)), (34, (.str .nil)), (44, (.int .i32 .nil))]
variable [Mo]
noncomputable def F37 (k : Nat) (x1 : ByteArray) (x2 : Int) (x3 : Int) (x4 : Int) : Option Bool :=
cond (decide (x2 < (x1.size : Int))) (
grd (decide (0 ≤ x2 ∧ x2 < (x1.size : Int))) <|
cond (decide (x3 ≤ (bt x1 x2))) (
grd (decide (0 ≤ x2 ∧ x2 < (x1.size : Int))) <|
some (decide ((bt x1 x2) ≤ x4))) (
some false)) (
some false)
def A37 : CTpl := ⟨[.s, .i .i64, .i .u8, .i .u8], []⟩
def h37 : List HTy := [.ts, .ti, .ti, .ti]
def R37 : List RTpl := [⟨.b, [], [.tb]⟩]
def n37 : An := .nd
theorem e37 (k : Nat) (y : Tup h37) : exec (P := Tryd.prog) D (lk rowsL) [] k (bodyOf Tryd.f37) n37 (fnE Tryd.f37 A37 [] (inOf A37 (ofTup h37 y))) (fnSt [] (inOf A37 (ofTup h37 y))) (leafR D (fnE Tryd.f37 A37 [] (inOf A37 (ofTup h37 y))) Tryd.f37.results.toList (R37.map (·.h)) R37) = F37 k y.1 y.2.1 y.2.2.1 y.2.2.2 := by kernel_rfl
noncomputable def C37 (k : Nat) : Con Tryd.prog := ⟨37, Tryd.f37, Tryd.func37, by kernel_rfl, by kernel_rfl, A37, h37, [], R37, fun y => F37 k y.1 y.2.1 y.2.2.1 y.2.2.2, fun y r h => con_ok good mixed (c := bodyOf Tryd.f37) Tryd.func37 (by kernel_rfl) n37 y ((e37 k y).trans h)⟩
noncomputable def F25 (k : Nat) (x1 : ByteArray) (x2 : Int) : Option (Int × Int) :=
grd (decide (0 ≤ x2 ∧ x2 < (x1.size : Int))) <|
cond (decide ((bt x1 x2) < 128)) (
some ((IntKind.wrap .i64 (bt x1 x2)), 1)) (
((cond (decide (194 ≤ (bt x1 x2))) (
cond (decide ((bt x1 x2) ≤ 223)) (
(F37 k x1 (IntKind.wrap .i64 (x2 + 1)) 128 191).bind fun y4 => 
some y4) (
some false)) (
some false) : Option Bool)).bind fun y5 => 
cond y5 (
grd (decide (0 ≤ (IntKind.wrap .i64 (x2 + 1)) ∧ (IntKind.wrap .i64 (x2 + 1)) < (x1.size : Int))) <|
some ((IntKind.wrap .i64 ((IntKind.wrap .i64 ((IntKind.wrap .i64 (bits .and .u8 (bt x1 x2) 31)) * 64)) + (IntKind.wrap .i64 (bits .and .u8 (bt x1 (IntKind.wrap .i64 (x2 + 1))) 63)))), 2)) (
((cond ((bt x1 x2) == 224) (
some (160, 191)) (
cond ((bt x1 x2) == 237) (
some (128, 159)) (
cond ((bt x1 x2) == 240) (
some (144, 191)) (
cond ((bt x1 x2) == 244) (
some (128, 143)) (
some (128, 191))))) : Option (Int × Int))).bind fun y6 => 
((cond (decide (224 ≤ (bt x1 x2))) (
cond (decide ((bt x1 x2) ≤ 239)) (
(F37 k x1 (IntKind.wrap .i64 (x2 + 1)) y6.1 y6.2).bind fun y12 => 
cond y12 (
(F37 k x1 (IntKind.wrap .i64 (x2 + 2)) 128 191).bind fun y13 => 
some y13) (
some false)) (
some false)) (
some false) : Option Bool)).bind fun y14 => 
cond y14 (
grd (decide (0 ≤ (IntKind.wrap .i64 (x2 + 1)) ∧ (IntKind.wrap .i64 (x2 + 1)) < (x1.size : Int))) <|
grd (decide (0 ≤ (IntKind.wrap .i64 (x2 + 2)) ∧ (IntKind.wrap .i64 (x2 + 2)) < (x1.size : Int))) <|
some ((IntKind.wrap .i64 ((IntKind.wrap .i64 ((IntKind.wrap .i64 ((IntKind.wrap .i64 (bits .and .u8 (bt x1 x2) 15)) * 4096)) + (IntKind.wrap .i64 ((IntKind.wrap .i64 (bits .and .u8 (bt x1 (IntKind.wrap .i64 (x2 + 1))) 63)) * 64)))) + (IntKind.wrap .i64 (bits .and .u8 (bt x1 (IntKind.wrap .i64 (x2 + 2))) 63)))), 3)) (
((cond (decide (240 ≤ (bt x1 x2))) (
cond (decide ((bt x1 x2) ≤ 244)) (
(F37 k x1 (IntKind.wrap .i64 (x2 + 1)) y6.1 y6.2).bind fun y22 => 
cond y22 (
(F37 k x1 (IntKind.wrap .i64 (x2 + 2)) 128 191).bind fun y23 => 
cond y23 (
(F37 k x1 (IntKind.wrap .i64 (x2 + 3)) 128 191).bind fun y24 => 
some y24) (
some false)) (
some false)) (
some false)) (
some false) : Option Bool)).bind fun y25 => 
cond y25 (
grd (decide (0 ≤ (IntKind.wrap .i64 (x2 + 1)) ∧ (IntKind.wrap .i64 (x2 + 1)) < (x1.size : Int))) <|
grd (decide (0 ≤ (IntKind.wrap .i64 (x2 + 2)) ∧ (IntKind.wrap .i64 (x2 + 2)) < (x1.size : Int))) <|
grd (decide (0 ≤ (IntKind.wrap .i64 (x2 + 3)) ∧ (IntKind.wrap .i64 (x2 + 3)) < (x1.size : Int))) <|
some ((IntKind.wrap .i64 ((IntKind.wrap .i64 ((IntKind.wrap .i64 ((IntKind.wrap .i64 ((IntKind.wrap .i64 (bits .and .u8 (bt x1 x2) 7)) * 262144)) + (IntKind.wrap .i64 ((IntKind.wrap .i64 (bits .and .u8 (bt x1 (IntKind.wrap .i64 (x2 + 1))) 63)) * 4096)))) + (IntKind.wrap .i64 ((IntKind.wrap .i64 (bits .and .u8 (bt x1 (IntKind.wrap .i64 (x2 + 2))) 63)) * 64)))) + (IntKind.wrap .i64 (bits .and .u8 (bt x1 (IntKind.wrap .i64 (x2 + 3))) 63)))), 4)) (
some (65533, 1)))))
def A25 : CTpl := ⟨[.s, .i .i64], []⟩
def h25 : List HTy := [.ts, .ti]
def R25 : List RTpl := [⟨.tp [.i .i64, .i .i64], [], [.ti, .ti]⟩]
def n25 : An := .sq (.nd) (.sq (.nd) (.sq (.sq (.nd) (.sq (.nd) (.jn [0, 1, 6] [] [(0, ⟨[(17, .b)], []⟩)] [[.tb]] (.nd) (.nd)))) (.sq (.nd) (.jn [0, 1, 6] [] [(0, ⟨[(7, .i .u8), (8, .i .u8)], []⟩)] [[.ti, .ti]] (.nd) (.sq (.jn [0, 1, 6, 7, 8] [] [(0, ⟨[(69, .b)], []⟩)] [[.tb]] (.nd) (.sq (.sq (.mk [] [0, 1, 3, 7, 0, 0, 32, 112, 240, 496, 1008, 2047, 0, 0, 8192, 28672, 61440, 126976, 262143, 524287, 1048575]) (.nd)) (.nd))) (.sq (.jn [0, 1, 6] [] [(0, ⟨[(114, .b)], []⟩)] [[.tb]] (.nd) (.sq (.sq (.mk [] [0, 1, 3, 7, 0, 0, 32, 112, 240, 496, 1008, 2047, 0, 0, 8192, 28672, 61440, 126976, 258048, 524287, 0, 0, 2097152, 7340032, 15728640, 32505856, 67108863, 134217727, 268435455]) (.nd)) (.nd))) (.nd)))))))
theorem e25 (k : Nat) (y : Tup h25) : exec (P := Tryd.prog) D (lk rowsL) [C37 k] k (bodyOf Tryd.f25) n25 (fnE Tryd.f25 A25 [] (inOf A25 (ofTup h25 y))) (fnSt [] (inOf A25 (ofTup h25 y))) (leafR D (fnE Tryd.f25 A25 [] (inOf A25 (ofTup h25 y))) Tryd.f25.results.toList (R25.map (·.h)) R25) = F25 k y.1 y.2 := by kernel_rfl
noncomputable def C25 (k : Nat) : Con Tryd.prog := ⟨25, Tryd.f25, Tryd.func25, by kernel_rfl, by kernel_rfl, A25, h25, [], R25, fun y => F25 k y.1 y.2, fun y r h => con_ok good mixed (c := bodyOf Tryd.f25) Tryd.func25 (by kernel_rfl) n25 y ((e25 k y).trans h)⟩
noncomputable def L10_8 (k : Nat) (x1 : ByteArray) (z8 : (Int × (List Int) × (List Int))) : Option ((Int × (List Int) × (List Int)) ⊕ ((List Int) × (List Int))) :=
cond (decide (z8.1 < (x1.size : Int))) (
(F25 k x1 z8.1).bind fun y9 => 
grd (decide ((z8.2.1.length + [y9.1].length) * 8 ≤ 140737488355328)) <|
grd (decide ((z8.2.2.length + [y9.2].length) * 8 ≤ 140737488355328)) <|
some (.inl ((IntKind.wrap .i64 (z8.1 + y9.2)), (z8.2.1 ++ [y9.1]), (z8.2.2 ++ [y9.2])))) (
some (.inr (z8.2.1, z8.2.2)))
noncomputable def F10 (k : Nat) (x1 : ByteArray) : Option ((List Int) × (List Int)) :=
(loopN (L10_8 k x1) k (0, ([] : List Int), ([] : List Int))).bind fun y10 => 
some (y10.1, y10.2)
def A10 : CTpl := ⟨[.s], []⟩
def h10 : List HTy := [.ts]
def R10 : List RTpl := [⟨.tp [.sl .u 500000, .sl .u 500001], [(500000, .ar 3 (.int .i64 .nil)), (500001, .ar 3 (.int .i64 .nil))], [.tl (.int .i64 .nil), .tl (.int .i64 .nil)]⟩]
def n10 : An := .sq (.nd) (.sq (.nd) (.sq (.sq (.nd) (.lp [0] [] ⟨[(4, .sl .n 300400), (5, .sl .n 300401), (6, .i .i64)], [(300400, .ar 3 (.int .i64 .nil)), (300401, .ar 3 (.int .i64 .nil))]⟩ [.ti, .tl (.int .i64 .nil), .tl (.int .i64 .nil)] [(2, ⟨[(4, .sl .n 300425), (5, .sl .n 300426)], [(300425, .ar 3 (.int .i64 .nil)), (300426, .ar 3 (.int .i64 .nil))]⟩)] [[.tl (.int .i64 .nil), .tl (.int .i64 .nil)]] (.nd))) (.nd)))
theorem e10 (k : Nat) (y : Tup h10) : exec (P := Tryd.prog) D (lk rowsL) [C25 k] k (bodyOf Tryd.f10) n10 (fnE Tryd.f10 A10 [] (inOf A10 (ofTup h10 y))) (fnSt [] (inOf A10 (ofTup h10 y))) (leafR D (fnE Tryd.f10 A10 [] (inOf A10 (ofTup h10 y))) Tryd.f10.results.toList (R10.map (·.h)) R10) = F10 k y := by kernel_rfl
noncomputable def C10 (k : Nat) : Con Tryd.prog := ⟨10, Tryd.f10, Tryd.func10, by kernel_rfl, by kernel_rfl, A10, h10, [], R10, fun y => F10 k y, fun y r h => con_ok good mixed (c := bodyOf Tryd.f10) Tryd.func10 (by kernel_rfl) n10 y ((e10 k y).trans h)⟩
noncomputable def F26 (k : Nat) (x1 : ByteArray) : Option (Int × Int) :=
some (((Go.Lib.decodeGo x1).1 : Int), ((Go.Lib.decodeGo x1).2 : Int))
def A26 : CTpl := ⟨[.s], []⟩
def h26 : List HTy := [.ts]
def R26 : List RTpl := [⟨.tp [.i .i32, .i .i64], [], [.ti, .ti]⟩]
def n26 : An := .nd
noncomputable def C26 (k : Nat) (hm : Mo.m = false) : Con Tryd.prog := ⟨26, Tryd.f26, Tryd.func26, by kernel_rfl, by kernel_rfl, A26, h26, [], R26, fun y => F26 k y, fun y r h => by
  have h2 : some (((Go.Lib.decodeGo y).1 : Int), ((Go.Lib.decodeGo y).2 : Int)) = some r := h
  cases h2
  exact CTx.lib (vs := [.string y]) rfl (fun _ _ _ => relV_two) fun w hw => (Tryd.utf8_DecodeRuneInString y w (tabs_of (by kernel_rfl) (by kernel_rfl) hw)).mono fun e w2 g => ⟨g.1, g.2, fun g2 => by rw [hm] at g2; cases g2⟩⟩
noncomputable def L12_8 (k : Nat) (x1 : ByteArray) (z18 : (Int × ByteArray × Nat)) : Option ((Int × ByteArray × Nat) ⊕ ((ByteArray × Nat) ⊕ (Int × ByteArray × Nat))) :=
cond (decide (z18.2.2 < z18.2.1.size)) (
((cond (decide (12 < (IntKind.wrap .i64 (z18.1 + 1)))) (
some true) (
cond (decide (((Utf8.decode z18.2.1 z18.2.2).1 : Int) < 33)) (
some true) (
cond (decide (127 ≤ ((Utf8.decode z18.2.1 z18.2.2).1 : Int))) (
some (decide (((Utf8.decode z18.2.1 z18.2.2).1 : Int) ≤ 160))) (
some false))) : Option Bool)).bind fun y19 => 
cond y19 (
some (.inr (.inl (z18.2.1, (z18.2.2 + (Utf8.decode z18.2.1 z18.2.2).2))))) (
grd (bnds (x1.size : Int) (z18.2.2 : Int) (x1.size : Int)) <|
(F26 k (x1.extract ((z18.2.2 : Int).toNat) ((x1.size : Int).toNat))).bind fun y20 => 
((cond (((Utf8.decode z18.2.1 z18.2.2).1 : Int) == 65533) (
some (y20.2 == 1)) (
some false) : Option Bool)).bind fun y21 => 
cond y21 (
some (.inr (.inl (z18.2.1, (z18.2.2 + (Utf8.decode z18.2.1 z18.2.2).2))))) (
some (.inl ((IntKind.wrap .i64 (z18.1 + 1)), z18.2.1, (z18.2.2 + (Utf8.decode z18.2.1 z18.2.2).2)))))) (
some (.inr (.inr (z18.1, z18.2.1, z18.2.2))))
noncomputable def F12 (k : Nat) (x1 : ByteArray) : Option Bool :=
(loopN (L12_8 k x1) k (0, x1, 0)).bind fun y22 => 
sel (fun y23 =>
some false) (fun y24 =>
some (decide (0 < y24.1))) y22
def A12 : CTpl := ⟨[.s], []⟩
def h12 : List HTy := [.ts]
def R12 : List RTpl := [⟨.b, [], [.tb]⟩]
def n12 : An := .sq (.nd) (.sq (.nd) (.sq (.sq (.nd) (.lp [0, 9] [] ⟨[(3, .i .i64)], [(9, .si)]⟩ [.ti, .ts, .tn] [(1, ⟨[(2, .lb false)], [(9, .si)]⟩), (2, ⟨[(3, .i .i64)], [(9, .si)]⟩)] [[.ts, .tn], [.ti, .ts, .tn]] (.sq (.nd) (.sq (.nd) (.sq (.nd) (.sq (.nd) (.sq (.jn [3, 4, 5] [9] [(0, ⟨[(29, .b)], []⟩)] [[.tb]] (.nd) (.nd)) (.sq (.nd) (.jn [3] [9] [(0, ⟨[(42, .b)], []⟩)] [[.tb]] (.nd) (.nd)))))))))) (.nd)))
theorem e12 (k : Nat) (hm : Mo.m = false) (y : Tup h12) : exec (P := Tryd.prog) D (lk rowsL) [C26 k hm] k (bodyOf Tryd.f12) n12 (fnE Tryd.f12 A12 [] (inOf A12 (ofTup h12 y))) (fnSt [] (inOf A12 (ofTup h12 y))) (leafR D (fnE Tryd.f12 A12 [] (inOf A12 (ofTup h12 y))) Tryd.f12.results.toList (R12.map (·.h)) R12) = F12 k y := by kernel_rfl
noncomputable def C12 (k : Nat) (hm : Mo.m = false) : Con Tryd.prog := ⟨12, Tryd.f12, Tryd.func12, by kernel_rfl, by kernel_rfl, A12, h12, [], R12, fun y => F12 k y, fun y r h => con_ok good mixed (c := bodyOf Tryd.f12) Tryd.func12 (by kernel_rfl) n12 y ((e12 k hm y).trans h)⟩
noncomputable def L14_8 (k : Nat) (z3 : (Int × ByteArray × Nat)) : Option ((Int × ByteArray × Nat) ⊕ (Int × ByteArray × Nat)) :=
cond (decide (z3.2.2 < z3.2.1.size)) (
some (.inl ((IntKind.wrap .i64 (z3.1 + 1)), z3.2.1, (z3.2.2 + (Utf8.decode z3.2.1 z3.2.2).2)))) (
some (.inr (z3.1, z3.2.1, z3.2.2)))
noncomputable def F14 (k : Nat) (x1 : ByteArray) : Option Int :=
(loopN (L14_8 k) k (0, x1, 0)).bind fun y4 => 
some y4.1
def A14 : CTpl := ⟨[.s], []⟩
def h14 : List HTy := [.ts]
def R14 : List RTpl := [⟨.i .i64, [], [.ti]⟩]
def n14 : An := .sq (.nd) (.sq (.nd) (.sq (.sq (.nd) (.lp [5] [] ⟨[(3, .i .i64)], [(5, .si)]⟩ [.ti, .ts, .tn] [(2, ⟨[(3, .i .i64)], [(5, .si)]⟩)] [[.ti, .ts, .tn]] (.nd))) (.nd)))
theorem e14 (k : Nat) (y : Tup h14) : exec (P := Tryd.prog) D (lk rowsL) [] k (bodyOf Tryd.f14) n14 (fnE Tryd.f14 A14 [] (inOf A14 (ofTup h14 y))) (fnSt [] (inOf A14 (ofTup h14 y))) (leafR D (fnE Tryd.f14 A14 [] (inOf A14 (ofTup h14 y))) Tryd.f14.results.toList (R14.map (·.h)) R14) = F14 k y := by kernel_rfl
noncomputable def C14 (k : Nat) : Con Tryd.prog := ⟨14, Tryd.f14, Tryd.func14, by kernel_rfl, by kernel_rfl, A14, h14, [], R14, fun y => F14 k y, fun y r h => con_ok good mixed (c := bodyOf Tryd.f14) Tryd.func14 (by kernel_rfl) n14 y ((e14 k y).trans h)⟩
noncomputable def L28_8 (k : Nat) (z3 : (ByteArray × Nat × (List Int))) : Option ((ByteArray × Nat × (List Int)) ⊕ (ByteArray × Nat × (List Int))) :=
cond (decide (z3.2.1 < z3.1.size)) (
grd (decide ((z3.2.2.length + [((Utf8.decode z3.1 z3.2.1).1 : Int)].length) * 4 ≤ 140737488355328)) <|
some (.inl (z3.1, (z3.2.1 + (Utf8.decode z3.1 z3.2.1).2), (z3.2.2 ++ [((Utf8.decode z3.1 z3.2.1).1 : Int)])))) (
some (.inr (z3.1, z3.2.1, z3.2.2)))
noncomputable def F28 (k : Nat) (x1 : ByteArray) : Option (List Int) :=
(loopN (L28_8 k) k (x1, 0, ([] : List Int))).bind fun y4 => 
some y4.2.2
def A28 : CTpl := ⟨[.s], []⟩
def h28 : List HTy := [.ts]
def R28 : List RTpl := [⟨.sl .u 500000, [(500000, .ar 21 (.int .i32 .nil))], [.tl (.int .i32 .nil)]⟩]
def n28 : An := .sq (.nd) (.sq (.nd) (.sq (.sq (.nd) (.lp [7] [] ⟨[(3, .sl .n 300400)], [(7, .si), (300400, .ar 21 (.int .i32 .nil))]⟩ [.ts, .tn, .tl (.int .i32 .nil)] [(2, ⟨[(3, .sl .n 300425)], [(7, .si), (300425, .ar 21 (.int .i32 .nil))]⟩)] [[.ts, .tn, .tl (.int .i32 .nil)]] (.nd))) (.nd)))
theorem e28 (k : Nat) (y : Tup h28) : exec (P := Tryd.prog) D (lk rowsL) [] k (bodyOf Tryd.f28) n28 (fnE Tryd.f28 A28 [] (inOf A28 (ofTup h28 y))) (fnSt [] (inOf A28 (ofTup h28 y))) (leafR D (fnE Tryd.f28 A28 [] (inOf A28 (ofTup h28 y))) Tryd.f28.results.toList (R28.map (·.h)) R28) = F28 k y := by kernel_rfl
noncomputable def C28 (k : Nat) : Con Tryd.prog := ⟨28, Tryd.f28, Tryd.func28, by kernel_rfl, by kernel_rfl, A28, h28, [], R28, fun y => F28 k y, fun y r h => con_ok good mixed (c := bodyOf Tryd.f28) Tryd.func28 (by kernel_rfl) n28 y ((e28 k y).trans h)⟩
noncomputable def F43 (k : Nat) (x1 : Int) : Option Bool :=
some (x1 != x1)
def A43 : CTpl := ⟨[.i .i32], []⟩
def h43 : List HTy := [.ti]
def R43 : List RTpl := [⟨.b, [], [.tb]⟩]
def n43 : An := .nd
theorem e43 (k : Nat) (y : Tup h43) : exec (P := Tryd.prog) D (lk rowsL) [] k (bodyOf Tryd.f43) n43 (fnE Tryd.f43 A43 [] (inOf A43 (ofTup h43 y))) (fnSt [] (inOf A43 (ofTup h43 y))) (leafR D (fnE Tryd.f43 A43 [] (inOf A43 (ofTup h43 y))) Tryd.f43.results.toList (R43.map (·.h)) R43) = F43 k y := by kernel_rfl
noncomputable def C43 (k : Nat) : Con Tryd.prog := ⟨43, Tryd.f43, Tryd.func43, by kernel_rfl, by kernel_rfl, A43, h43, [], R43, fun y => F43 k y, fun y r h => con_ok good mixed (c := bodyOf Tryd.f43) Tryd.func43 (by kernel_rfl) n43 y ((e43 k y).trans h)⟩
noncomputable def F39 (k : Nat) (x1 : Int) (x2 : Int) : Option Int :=
(F43 k x1).bind fun y2 => 
(F43 k x2).bind fun y4 => 
cond y2 (
cond y4 (
some 0) (
some (-1))) (
cond y4 (
some 1) (
cond (decide (x1 < x2)) (
some (-1)) (
cond (decide (x2 < x1)) (
some 1) (
some 0))))
def A39 : CTpl := ⟨[.i .i32, .i .i32], []⟩
def h39 : List HTy := [.ti, .ti]
def R39 : List RTpl := [⟨.i .i64, [], [.ti]⟩]
def n39 : An := .nd
theorem e39 (k : Nat) (y : Tup h39) : exec (P := Tryd.prog) D (lk rowsL) [C43 k] k (bodyOf Tryd.f39) n39 (fnE Tryd.f39 A39 [] (inOf A39 (ofTup h39 y))) (fnSt [] (inOf A39 (ofTup h39 y))) (leafR D (fnE Tryd.f39 A39 [] (inOf A39 (ofTup h39 y))) Tryd.f39.results.toList (R39.map (·.h)) R39) = F39 k y.1 y.2 := by kernel_rfl
noncomputable def C39 (k : Nat) : Con Tryd.prog := ⟨39, Tryd.f39, Tryd.func39, by kernel_rfl, by kernel_rfl, A39, h39, [], R39, fun y => F39 k y.1 y.2, fun y r h => con_ok good mixed (c := bodyOf Tryd.f39) Tryd.func39 (by kernel_rfl) n39 y ((e39 k y).trans h)⟩
noncomputable def L29_6 (k : Nat) (x1 : (List Int)) (x2 : (List Int)) (z27 : Int) : Option (Int ⊕ (Int ⊕ Unit)) :=
cond (decide (z27 < (x1.length : Int))) (
(ix x1 z27).bind fun a28 =>
cond (decide ((x2.length : Int) ≤ z27)) (
some (.inr (.inl 1))) (
(ix x2 z27).bind fun a29 =>
(x2[z27.toNat]?).bind fun a30 =>
(F39 k a28 a30).bind fun y31 => 
cond (y31 != 0) (
some (.inr (.inl y31))) (
some (.inl (IntKind.wrap .i64 (z27 + 1)))))) (
some (.inr (.inr ())))
noncomputable def F29 (k : Nat) (x1 : (List Int)) (x2 : (List Int)) : Option Int :=
(loopN (L29_6 k x1 x2) k 0).bind fun y32 => 
sel (fun y33 =>
some y33) (fun y34 =>
cond (decide ((x1.length : Int) < (x2.length : Int))) (
some (-1)) (
some 0)) y32
def A29 : CTpl := ⟨[.fz .u (.int .i32 .nil), .sl .u 1000000], [(1000000, .ar 21 (.int .i32 .nil))]⟩
def h29 : List HTy := [.tl (.int .i32 .nil), .tl (.int .i32 .nil)]
def R29 : List RTpl := [⟨.i .i64, [], [.ti]⟩]
def n29 : An := .sq (.nd) (.sq (.sq (.nd) (.lp [0, 1, 9, 10] [] ⟨[(11, .i .i64)], []⟩ [.ti] [(1, ⟨[(4, .i .i64)], []⟩), (2, ⟨[], []⟩)] [[.ti], []] (.nd))) (.nd))
theorem e29 (k : Nat) (y : Tup h29) : exec (P := Tryd.prog) D (lk rowsL) [C39 k] k (bodyOf Tryd.f29) n29 (fnE Tryd.f29 A29 [1000000] (inOf A29 (ofTup h29 y))) (fnSt [1000000] (inOf A29 (ofTup h29 y))) (leafR D (fnE Tryd.f29 A29 [1000000] (inOf A29 (ofTup h29 y))) Tryd.f29.results.toList (R29.map (·.h)) R29) = F29 k y.1 y.2 := by kernel_rfl
noncomputable def C29 (k : Nat) : Con Tryd.prog := ⟨29, Tryd.f29, Tryd.func29, by kernel_rfl, by kernel_rfl, A29, h29, [1000000], R29, fun y => F29 k y.1 y.2, fun y r h => con_ok good mixed (c := bodyOf Tryd.f29) Tryd.func29 (by kernel_rfl) n29 y ((e29 k y).trans h)⟩
noncomputable def L29_1_6 (k : Nat) (x1 : (List Int)) (x2 : (List Int)) (z22 : Int) : Option (Int ⊕ (Int ⊕ Unit)) :=
cond (decide (z22 < (x1.length : Int))) (
(ix x1 z22).bind fun a23 =>
cond (decide ((x2.length : Int) ≤ z22)) (
some (.inr (.inl 1))) (
(ix x2 z22).bind fun a24 =>
(F39 k a23 a24).bind fun y25 => 
cond (y25 != 0) (
some (.inr (.inl y25))) (
some (.inl (IntKind.wrap .i64 (z22 + 1)))))) (
some (.inr (.inr ())))
noncomputable def F29_1 (k : Nat) (x1 : (List Int)) (x2 : (List Int)) : Option Int :=
(loopN (L29_1_6 k x1 x2) k 0).bind fun y26 => 
sel (fun y27 =>
some y27) (fun y28 =>
cond (decide ((x1.length : Int) < (x2.length : Int))) (
some (-1)) (
some 0)) y26
def A29_1 : CTpl := ⟨[.fz .u (.int .i32 .nil), .fz .u (.int .i32 .nil)], []⟩
def h29_1 : List HTy := [.tl (.int .i32 .nil), .tl (.int .i32 .nil)]
def R29_1 : List RTpl := [⟨.i .i64, [], [.ti]⟩]
def n29_1 : An := .sq (.nd) (.sq (.sq (.nd) (.lp [0, 1, 9, 10] [] ⟨[(11, .i .i64)], []⟩ [.ti] [(1, ⟨[(4, .i .i64)], []⟩), (2, ⟨[], []⟩)] [[.ti], []] (.nd))) (.nd))
theorem e29_1 (k : Nat) (y : Tup h29_1) : exec (P := Tryd.prog) D (lk rowsL) [C39 k] k (bodyOf Tryd.f29) n29_1 (fnE Tryd.f29 A29_1 [] (inOf A29_1 (ofTup h29_1 y))) (fnSt [] (inOf A29_1 (ofTup h29_1 y))) (leafR D (fnE Tryd.f29 A29_1 [] (inOf A29_1 (ofTup h29_1 y))) Tryd.f29.results.toList (R29_1.map (·.h)) R29_1) = F29_1 k y.1 y.2 := by kernel_rfl
noncomputable def C29_1 (k : Nat) : Con Tryd.prog := ⟨29, Tryd.f29, Tryd.func29, by kernel_rfl, by kernel_rfl, A29_1, h29_1, [], R29_1, fun y => F29_1 k y.1 y.2, fun y r h => con_ok good mixed (c := bodyOf Tryd.f29) Tryd.func29 (by kernel_rfl) n29_1 y ((e29_1 k y).trans h)⟩
noncomputable def F17 (k : Nat) (x1 : ByteArray) (x2 : ByteArray) : Option Int :=
(F28 k x1).bind fun y3 => 
(F28 k x2).bind fun y4 => 
(F29_1 k y3 y4).bind fun y5 => 
some y5
def A17 : CTpl := ⟨[.s, .s], []⟩
def h17 : List HTy := [.ts, .ts]
def R17 : List RTpl := [⟨.i .i64, [], [.ti]⟩]
def n17 : An := .sq (.nd) (.sq (.nd) (.sq (.fr [(2, 400800), (2, 401000)]) (.nd)))
theorem e17 (k : Nat) (y : Tup h17) : exec (P := Tryd.prog) D (lk rowsL) [C28 k, C29_1 k] k (bodyOf Tryd.f17) n17 (fnE Tryd.f17 A17 [] (inOf A17 (ofTup h17 y))) (fnSt [] (inOf A17 (ofTup h17 y))) (leafR D (fnE Tryd.f17 A17 [] (inOf A17 (ofTup h17 y))) Tryd.f17.results.toList (R17.map (·.h)) R17) = F17 k y.1 y.2 := by kernel_rfl
noncomputable def C17 (k : Nat) : Con Tryd.prog := ⟨17, Tryd.f17, Tryd.func17, by kernel_rfl, by kernel_rfl, A17, h17, [], R17, fun y => F17 k y.1 y.2, fun y r h => con_ok good mixed (c := bodyOf Tryd.f17) Tryd.func17 (by kernel_rfl) n17 y ((e17 k y).trans h)⟩
noncomputable def L15_6 (k : Nat) (x1 : ByteArray) (z5 : (Int × ByteArray × Nat)) : Option ((Int × ByteArray × Nat) ⊕ ((ByteArray × ByteArray × Nat) ⊕ (ByteArray × Nat))) :=
cond (decide (z5.2.2 < z5.2.1.size)) (
cond (decide (z5.1 ≤ 0)) (
grd (bnds (x1.size : Int) 0 (z5.2.2 : Int)) <|
some (.inr (.inl ((x1.extract 0 ((z5.2.2 : Int).toNat)), z5.2.1, (z5.2.2 + (Utf8.decode z5.2.1 z5.2.2).2))))) (
some (.inl ((IntKind.wrap .i64 (z5.1 - 1)), z5.2.1, (z5.2.2 + (Utf8.decode z5.2.1 z5.2.2).2))))) (
some (.inr (.inr (z5.2.1, z5.2.2))))
noncomputable def F15 (k : Nat) (x1 : ByteArray) (x2 : Int) : Option ByteArray :=
(loopN (L15_6 k x1) k (x2, x1, 0)).bind fun y6 => 
sel (fun y7 =>
some y7.1) (fun y8 =>
some x1) y6
def A15 : CTpl := ⟨[.s, .i .i64], []⟩
def h15 : List HTy := [.ts, .ti]
def R15 : List RTpl := [⟨.s, [], [.ts]⟩]
def n15 : An := .sq (.nd) (.sq (.sq (.nd) (.lp [0, 7] [] ⟨[(1, .i .i64)], [(7, .si)]⟩ [.ti, .ts, .tn] [(1, ⟨[(4, .s)], [(7, .si)]⟩), (2, ⟨[], [(7, .si)]⟩)] [[.ts, .ts, .tn], [.ts, .tn]] (.nd))) (.nd))
theorem e15 (k : Nat) (y : Tup h15) : exec (P := Tryd.prog) D (lk rowsL) [] k (bodyOf Tryd.f15) n15 (fnE Tryd.f15 A15 [] (inOf A15 (ofTup h15 y))) (fnSt [] (inOf A15 (ofTup h15 y))) (leafR D (fnE Tryd.f15 A15 [] (inOf A15 (ofTup h15 y))) Tryd.f15.results.toList (R15.map (·.h)) R15) = F15 k y.1 y.2 := by kernel_rfl
noncomputable def C15 (k : Nat) : Con Tryd.prog := ⟨15, Tryd.f15, Tryd.func15, by kernel_rfl, by kernel_rfl, A15, h15, [], R15, fun y => F15 k y.1 y.2, fun y r h => con_ok good mixed (c := bodyOf Tryd.f15) Tryd.func15 (by kernel_rfl) n15 y ((e15 k y).trans h)⟩
noncomputable def F11 (k : Nat) : Option Bool :=
(F12 k (⟨#[97]⟩ : ByteArray)).bind fun y1 => 
cond y1 (
(F12 k (⟨#[97, 32, 98]⟩ : ByteArray)).bind fun y2 => 
cond (!y2) (
(F14 k (⟨#[195]⟩ : ByteArray)).bind fun y3 => 
cond (y3 == 1) (
(F17 k (⟨#[97]⟩ : ByteArray) (⟨#[97, 98]⟩ : ByteArray)).bind fun y4 => 
cond (y4 == (-1)) (
(F15 k (⟨#[195, 169, 97]⟩ : ByteArray) 1).bind fun y5 => 
some (y5.toList == (⟨#[195, 169]⟩ : ByteArray).toList)) (
some false)) (
some false)) (
some false)) (
some false)
def A11 : CTpl := ⟨[], []⟩
def h11 : List HTy := []
def R11 : List RTpl := [⟨.b, [], [.tb]⟩]
def n11 : An := .nd
theorem e11 (k : Nat) (hm : Mo.m = false) (y : Tup h11) : exec (P := Tryd.prog) D (lk rowsL) [C12 k hm, C14 k, C17 k, C15 k] k (bodyOf Tryd.f11) n11 (fnE Tryd.f11 A11 [] (inOf A11 (ofTup h11 y))) (fnSt [] (inOf A11 (ofTup h11 y))) (leafR D (fnE Tryd.f11 A11 [] (inOf A11 (ofTup h11 y))) Tryd.f11.results.toList (R11.map (·.h)) R11) = F11 k := by kernel_rfl
noncomputable def C11 (k : Nat) (hm : Mo.m = false) : Con Tryd.prog := ⟨11, Tryd.f11, Tryd.func11, by kernel_rfl, by kernel_rfl, A11, h11, [], R11, fun y => F11 k, fun y r h => con_ok good mixed (c := bodyOf Tryd.f11) Tryd.func11 (by kernel_rfl) n11 y ((e11 k hm y).trans h)⟩
noncomputable def F27 (k : Nat) (x1 : Int) (x2 : Int) : Option Bool :=
cond (decide (33 ≤ x1)) (
cond (decide (127 ≤ x1)) (
cond (!(decide (x1 ≤ 160))) (
cond (x1 == 65533) (
some (!(x2 == 1))) (
some true)) (
some false)) (
cond (x1 == 65533) (
some (!(x2 == 1))) (
some true))) (
some false)
def A27 : CTpl := ⟨[.i .i64, .i .i64], []⟩
def h27 : List HTy := [.ti, .ti]
def R27 : List RTpl := [⟨.b, [], [.tb]⟩]
def n27 : An := .nd
theorem e27 (k : Nat) (y : Tup h27) : exec (P := Tryd.prog) D (lk rowsL) [] k (bodyOf Tryd.f27) n27 (fnE Tryd.f27 A27 [] (inOf A27 (ofTup h27 y))) (fnSt [] (inOf A27 (ofTup h27 y))) (leafR D (fnE Tryd.f27 A27 [] (inOf A27 (ofTup h27 y))) Tryd.f27.results.toList (R27.map (·.h)) R27) = F27 k y.1 y.2 := by kernel_rfl
noncomputable def C27 (k : Nat) : Con Tryd.prog := ⟨27, Tryd.f27, Tryd.func27, by kernel_rfl, by kernel_rfl, A27, h27, [], R27, fun y => F27 k y.1 y.2, fun y r h => con_ok good mixed (c := bodyOf Tryd.f27) Tryd.func27 (by kernel_rfl) n27 y ((e27 k y).trans h)⟩
noncomputable def L13_8 (k : Nat) (y2 : ((List Int) × (List Int))) (z42 : Int) : Option (Int ⊕ (Unit ⊕ Unit)) :=
cond (decide (z42 < (y2.1.length : Int))) (
(ix y2.1 z42).bind fun a43 =>
(y2.1[z42.toNat]?).bind fun a44 =>
(ix y2.2 z42).bind fun a45 =>
(y2.2[z42.toNat]?).bind fun a46 =>
(F27 k a44 a46).bind fun y47 => 
cond (!y47) (
some (.inr (.inl ()))) (
some (.inl (IntKind.wrap .i64 (z42 + 1))))) (
some (.inr (.inr ())))
noncomputable def F13 (k : Nat) (x1 : ByteArray) : Option Bool :=
(F10 k x1).bind fun y2 => 
(loopN (L13_8 k y2) k 0).bind fun y48 => 
sel (fun y49 =>
some false) (fun y50 =>
cond (decide (1 ≤ (y2.1.length : Int))) (
some (decide ((y2.1.length : Int) ≤ 12))) (
some false)) y48
def A13 : CTpl := ⟨[.s], []⟩
def h13 : List HTy := [.ts]
def R13 : List RTpl := [⟨.b, [], [.tb]⟩]
def n13 : An := .sq (.nd) (.sq (.nd) (.sq (.sq (.nd) (.lp [3, 4] [400800, 400801] ⟨[(5, .i .i64)], []⟩ [.ti] [(1, ⟨[(2, .lb false)], []⟩), (2, ⟨[], []⟩)] [[], []] (.sq (.nd) (.sq (.sq (.mk [] [0, 0, 3, 7, 0, 0, 48, 112, 255, 511]) (.nd)) (.nd))))) (.nd)))
theorem e13 (k : Nat) (y : Tup h13) : exec (P := Tryd.prog) D (lk rowsL) [C10 k, C27 k] k (bodyOf Tryd.f13) n13 (fnE Tryd.f13 A13 [] (inOf A13 (ofTup h13 y))) (fnSt [] (inOf A13 (ofTup h13 y))) (leafR D (fnE Tryd.f13 A13 [] (inOf A13 (ofTup h13 y))) Tryd.f13.results.toList (R13.map (·.h)) R13) = F13 k y := by kernel_rfl
noncomputable def C13 (k : Nat) : Con Tryd.prog := ⟨13, Tryd.f13, Tryd.func13, by kernel_rfl, by kernel_rfl, A13, h13, [], R13, fun y => F13 k y, fun y r h => con_ok good mixed (c := bodyOf Tryd.f13) Tryd.func13 (by kernel_rfl) n13 y ((e13 k y).trans h)⟩
noncomputable def F3 (k : Nat) (x1 : ByteArray) : Option Bool :=
(F10 k x1).bind fun y2 => 
(F11 k).bind fun y3 => 
cond y3 (
(F12 k x1).bind fun y4 => 
(F13 k x1).bind fun y5 => 
cond (y4 == y5) (
(F14 k x1).bind fun y6 => 
some (y6 == (y2.1.length : Int))) (
some false)) (
some false)
def A3 : CTpl := ⟨[.s], []⟩
def h3 : List HTy := [.ts]
def R3 : List RTpl := [⟨.b, [], [.tb]⟩]
def n3 : An := .nd
theorem e3 (k : Nat) (hm : Mo.m = false) (y : Tup h3) : exec (P := Tryd.prog) D (lk rowsL) [C10 k, C11 k hm, C12 k hm, C13 k, C14 k] k (bodyOf Tryd.f3) n3 (fnE Tryd.f3 A3 [] (inOf A3 (ofTup h3 y))) (fnSt [] (inOf A3 (ofTup h3 y))) (leafR D (fnE Tryd.f3 A3 [] (inOf A3 (ofTup h3 y))) Tryd.f3.results.toList (R3.map (·.h)) R3) = F3 k y := by kernel_rfl
noncomputable def C3 (k : Nat) (hm : Mo.m = false) : Con Tryd.prog := ⟨3, Tryd.f3, Tryd.func3, by kernel_rfl, by kernel_rfl, A3, h3, [], R3, fun y => F3 k y, fun y r h => con_ok good mixed (c := bodyOf Tryd.f3) Tryd.func3 (by kernel_rfl) n3 y ((e3 k hm y).trans h)⟩
noncomputable def L16_10 (k : Nat) (x2 : Int) (y2 : ((List Int) × (List Int))) (z20 : (Int × Int)) : Option ((Int × Int) ⊕ Int) :=
((cond (decide (z20.2 < (y2.2.length : Int))) (
some (decide (z20.2 < x2))) (
some false) : Option Bool)).bind fun y21 => 
cond y21 (
(ix y2.2 z20.2).bind fun a22 =>
(y2.2[z20.2.toNat]?).bind fun a23 =>
some (.inl ((IntKind.wrap .i64 (z20.1 + a23)), (IntKind.wrap .i64 (z20.2 + 1))))) (
some (.inr z20.1))
noncomputable def F16 (k : Nat) (x1 : ByteArray) (x2 : Int) : Option ByteArray :=
(F10 k x1).bind fun y2 => 
(loopN (L16_10 k x2 y2) k (0, 0)).bind fun y24 => 
grd (bnds (x1.size : Int) 0 y24) <|
some (x1.extract 0 y24.toNat)
def A16 : CTpl := ⟨[.s, .i .i64], []⟩
def h16 : List HTy := [.ts, .ti]
def R16 : List RTpl := [⟨.s, [], [.ts]⟩]
def n16 : An := .sq (.nd) (.sq (.nd) (.sq (.nd) (.sq (.sq (.nd) (.lp [0, 1, 6] [401101] ⟨[(7, .i .i64), (8, .i .i64)], []⟩ [.ti, .ti] [(2, ⟨[(7, .i .i64)], []⟩)] [[.ti]] (.sq (.jn [7, 8] [] [(0, ⟨[(22, .b)], []⟩)] [[.tb]] (.nd) (.nd)) (.nd)))) (.nd))))
theorem e16 (k : Nat) (y : Tup h16) : exec (P := Tryd.prog) D (lk rowsL) [C10 k] k (bodyOf Tryd.f16) n16 (fnE Tryd.f16 A16 [] (inOf A16 (ofTup h16 y))) (fnSt [] (inOf A16 (ofTup h16 y))) (leafR D (fnE Tryd.f16 A16 [] (inOf A16 (ofTup h16 y))) Tryd.f16.results.toList (R16.map (·.h)) R16) = F16 k y.1 y.2 := by kernel_rfl
noncomputable def C16 (k : Nat) : Con Tryd.prog := ⟨16, Tryd.f16, Tryd.func16, by kernel_rfl, by kernel_rfl, A16, h16, [], R16, fun y => F16 k y.1 y.2, fun y r h => con_ok good mixed (c := bodyOf Tryd.f16) Tryd.func16 (by kernel_rfl) n16 y ((e16 k y).trans h)⟩
noncomputable def F4 (k : Nat) (x1 : ByteArray) (x2 : Int) : Option Bool :=
(F15 k x1 x2).bind fun y2 => 
(F11 k).bind fun y3 => 
cond y3 (
(F16 k x1 x2).bind fun y4 => 
cond (y2.toList == y4.toList) (
cond (decide ((y2.size : Int) ≤ (x1.size : Int))) (
grd (bnds (x1.size : Int) 0 (y2.size : Int)) <|
cond (y2.toList == (x1.extract 0 ((y2.size : Int).toNat)).toList) (
(F14 k y2).bind fun y5 => 
(F14 k x1).bind fun y6 => 
some (y5 == (mn (mx x2 0) y6))) (
some false)) (
some false)) (
some false)) (
some false)
def A4 : CTpl := ⟨[.s, .i .i64], []⟩
def h4 : List HTy := [.ts, .ti]
def R4 : List RTpl := [⟨.b, [], [.tb]⟩]
def n4 : An := .nd
theorem e4 (k : Nat) (hm : Mo.m = false) (y : Tup h4) : exec (P := Tryd.prog) D (lk rowsL) [C15 k, C11 k hm, C16 k, C14 k] k (bodyOf Tryd.f4) n4 (fnE Tryd.f4 A4 [] (inOf A4 (ofTup h4 y))) (fnSt [] (inOf A4 (ofTup h4 y))) (leafR D (fnE Tryd.f4 A4 [] (inOf A4 (ofTup h4 y))) Tryd.f4.results.toList (R4.map (·.h)) R4) = F4 k y.1 y.2 := by kernel_rfl
noncomputable def C4 (k : Nat) (hm : Mo.m = false) : Con Tryd.prog := ⟨4, Tryd.f4, Tryd.func4, by kernel_rfl, by kernel_rfl, A4, h4, [], R4, fun y => F4 k y.1 y.2, fun y r h => con_ok good mixed (c := bodyOf Tryd.f4) Tryd.func4 (by kernel_rfl) n4 y ((e4 k hm y).trans h)⟩
noncomputable def F5 (k : Nat) (x1 : ByteArray) (x2 : ByteArray) (x3 : Int) : Option Bool :=
(((F11 k).bind fun y9 => 
cond (!y9) (
some true) (
(F12 k x1).bind fun y10 => 
cond (!y10) (
some true) (
(F12 k x2).bind fun y11 => 
some (!y11))) : Option Bool)).bind fun y12 => 
cond y12 (
(F11 k).bind fun y13 => 
some y13) (
(F17 k x1 x2).bind fun y15 => 
(F15 k x1 x3).bind fun y17 => 
((cond (!((decide (y15 < 0)) == (Op.bytesLess x1.toList x2.toList))) (
some true) (
cond (!((y15 == 0) == (x1.toList == x2.toList))) (
some true) (
some (decide (48 < (x1.size : Int))))) : Option Bool)).bind fun y19 => 
cond y19 (
some false) (
cond (y17.toList == (⟨#[]⟩ : ByteArray).toList) (
some true) (
(F12 k y17).bind fun y20 => 
cond y20 (
(F17 k y17 x1).bind fun y21 => 
some (decide (y21 ≤ 0))) (
some false))))
def A5 : CTpl := ⟨[.s, .s, .i .i64], []⟩
def h5 : List HTy := [.ts, .ts, .ti]
def R5 : List RTpl := [⟨.b, [], [.tb]⟩]
def n5 : An := .sq (.nd) (.sq (.jn [0, 1, 2] [] [(0, ⟨[(20, .b)], []⟩)] [[.tb]] (.nd) (.nd)) (.sq (.nd) (.sq (.nd) (.sq (.jn [0, 8] [] [(0, ⟨[(46, .b)], []⟩)] [[.tb]] (.nd) (.nd)) (.nd)))))
theorem e5 (k : Nat) (hm : Mo.m = false) (y : Tup h5) : exec (P := Tryd.prog) D (lk rowsL) [C11 k hm, C12 k hm, C17 k, C15 k] k (bodyOf Tryd.f5) n5 (fnE Tryd.f5 A5 [] (inOf A5 (ofTup h5 y))) (fnSt [] (inOf A5 (ofTup h5 y))) (leafR D (fnE Tryd.f5 A5 [] (inOf A5 (ofTup h5 y))) Tryd.f5.results.toList (R5.map (·.h)) R5) = F5 k y.1 y.2.1 y.2.2 := by kernel_rfl
noncomputable def C5 (k : Nat) (hm : Mo.m = false) : Con Tryd.prog := ⟨5, Tryd.f5, Tryd.func5, by kernel_rfl, by kernel_rfl, A5, h5, [], R5, fun y => F5 k y.1 y.2.1 y.2.2, fun y r h => con_ok good mixed (c := bodyOf Tryd.f5) Tryd.func5 (by kernel_rfl) n5 y ((e5 k hm y).trans h)⟩
noncomputable def F6 (k : Nat) (x1 : ByteArray) (x2 : ByteArray) : Option Bool :=
(((F11 k).bind fun y9 => 
cond (!y9) (
some true) (
(F12 k x1).bind fun y10 => 
cond (!y10) (
some true) (
(F12 k x2).bind fun y11 => 
some (!y11))) : Option Bool)).bind fun y12 => 
cond y12 (
(F11 k).bind fun y13 => 
some y13) (
grd (decide (x1.size + x2.size ≤ 9223372036854775807)) <|
(F14 k (x1 ++ x2)).bind fun y14 => 
(F14 k x1).bind fun y15 => 
(F14 k x2).bind fun y16 => 
cond (y14 == (IntKind.wrap .i64 (y15 + y16))) (
grd (decide (x1.size + x2.size ≤ 9223372036854775807)) <|
(F14 k x1).bind fun y17 => 
(F15 k (x1 ++ x2) y17).bind fun y18 => 
cond (y18.toList == x1.toList) (
grd (decide (x1.size + x2.size ≤ 9223372036854775807)) <|
(F12 k (x1 ++ x2)).bind fun y19 => 
(F14 k x1).bind fun y20 => 
(F14 k x2).bind fun y21 => 
some (y19 == (decide ((IntKind.wrap .i64 (y20 + y21)) ≤ 12)))) (
some false)) (
some false))
def A6 : CTpl := ⟨[.s, .s], []⟩
def h6 : List HTy := [.ts, .ts]
def R6 : List RTpl := [⟨.b, [], [.tb]⟩]
def n6 : An := .sq (.nd) (.sq (.jn [0, 1] [] [(0, ⟨[(16, .b)], []⟩)] [[.tb]] (.nd) (.nd)) (.nd))
theorem e6 (k : Nat) (hm : Mo.m = false) (y : Tup h6) : exec (P := Tryd.prog) D (lk rowsL) [C11 k hm, C12 k hm, C14 k, C15 k] k (bodyOf Tryd.f6) n6 (fnE Tryd.f6 A6 [] (inOf A6 (ofTup h6 y))) (fnSt [] (inOf A6 (ofTup h6 y))) (leafR D (fnE Tryd.f6 A6 [] (inOf A6 (ofTup h6 y))) Tryd.f6.results.toList (R6.map (·.h)) R6) = F6 k y.1 y.2 := by kernel_rfl
noncomputable def C6 (k : Nat) (hm : Mo.m = false) : Con Tryd.prog := ⟨6, Tryd.f6, Tryd.func6, by kernel_rfl, by kernel_rfl, A6, h6, [], R6, fun y => F6 k y.1 y.2, fun y r h => con_ok good mixed (c := bodyOf Tryd.f6) Tryd.func6 (by kernel_rfl) n6 y ((e6 k hm y).trans h)⟩
noncomputable def L20_10 (k : Nat) (y2 : ((List Int) × (List Int))) (y4 : ((List Int) × (List Int))) (z40 : Int) : Option (Int ⊕ Int) :=
((cond (decide (z40 < (y2.1.length : Int))) (
cond (decide (z40 < (y4.1.length : Int))) (
(ix y2.1 z40).bind fun a41 =>
(y2.1[z40.toNat]?).bind fun a42 =>
(ix y4.1 z40).bind fun a43 =>
(y4.1[z40.toNat]?).bind fun a44 =>
some (a42 == a44)) (
some false)) (
some false) : Option Bool)).bind fun y45 => 
cond y45 (
some (.inl (IntKind.wrap .i64 (z40 + 1)))) (
some (.inr z40))
noncomputable def F20 (k : Nat) (x1 : ByteArray) (x2 : ByteArray) : Option Int :=
(F10 k x1).bind fun y2 => 
(F10 k x2).bind fun y4 => 
(loopN (L20_10 k y2 y4) k 0).bind fun y46 => 
some y46
def A20 : CTpl := ⟨[.s, .s], []⟩
def h20 : List HTy := [.ts, .ts]
def R20 : List RTpl := [⟨.i .i64, [], [.ti]⟩]
def n20 : An := .sq (.nd) (.sq (.nd) (.sq (.nd) (.sq (.nd) (.sq (.lp [5, 7] [401200, 401700] ⟨[(9, .i .i64)], []⟩ [.ti] [(2, ⟨[(9, .i .i64)], []⟩)] [[.ti]] (.sq (.jn [9] [] [(0, ⟨[(40, .b)], []⟩)] [[.tb]] (.mk [] [0, 0, 2, 7, 15, 31, 31, 95, 255, 511, 1023, 2047, 2047, 8191, 16383, 2047, 2047, 100351, 231423, 524287, 1048575]) (.nd)) (.nd))) (.nd)))))
theorem e20 (k : Nat) (y : Tup h20) : exec (P := Tryd.prog) D (lk rowsL) [C10 k] k (bodyOf Tryd.f20) n20 (fnE Tryd.f20 A20 [] (inOf A20 (ofTup h20 y))) (fnSt [] (inOf A20 (ofTup h20 y))) (leafR D (fnE Tryd.f20 A20 [] (inOf A20 (ofTup h20 y))) Tryd.f20.results.toList (R20.map (·.h)) R20) = F20 k y.1 y.2 := by kernel_rfl
noncomputable def C20 (k : Nat) : Con Tryd.prog := ⟨20, Tryd.f20, Tryd.func20, by kernel_rfl, by kernel_rfl, A20, h20, [], R20, fun y => F20 k y.1 y.2, fun y r h => con_ok good mixed (c := bodyOf Tryd.f20) Tryd.func20 (by kernel_rfl) n20 y ((e20 k y).trans h)⟩
noncomputable def F18 (k : Nat) (x1 : ByteArray) (x2 : ByteArray) : Option Int :=
(F10 k x1).bind fun y2 => 
(F10 k x2).bind fun y4 => 
(F20 k x1 x2).bind fun y6 => 
((cond (y6 == (y2.1.length : Int)) (
some (y6 == (y4.1.length : Int))) (
some false) : Option Bool)).bind fun y12 => 
cond y12 (
some 0) (
cond (y6 == (y2.1.length : Int)) (
some (-1)) (
cond (y6 == (y4.1.length : Int)) (
some 1) (
(ix y2.1 y6).bind fun a13 =>
(y2.1[y6.toNat]?).bind fun a14 =>
(ix y4.1 y6).bind fun a15 =>
(y4.1[y6.toNat]?).bind fun a16 =>
cond (decide (a14 < a16)) (
some (-1)) (
some 1))))
def A18 : CTpl := ⟨[.s, .s], []⟩
def h18 : List HTy := [.ts, .ts]
def R18 : List RTpl := [⟨.i .i64, [], [.ti]⟩]
def n18 : An := .sq (.nd) (.sq (.nd) (.sq (.nd) (.sq (.nd) (.sq (.jn [5, 7, 9] [401200, 401700] [(0, ⟨[(23, .b)], []⟩)] [[.tb]] (.nd) (.sq (.nd) (.sq (.nd) (.sq (.nd) (.sq (.nd) (.sq (.nd) (.sq (.mk [] [0, 0, 3, 7, 0, 0, 48, 112, 255, 511]) (.nd)))))))) (.nd)))))
theorem e18 (k : Nat) (y : Tup h18) : exec (P := Tryd.prog) D (lk rowsL) [C10 k, C20 k] k (bodyOf Tryd.f18) n18 (fnE Tryd.f18 A18 [] (inOf A18 (ofTup h18 y))) (fnSt [] (inOf A18 (ofTup h18 y))) (leafR D (fnE Tryd.f18 A18 [] (inOf A18 (ofTup h18 y))) Tryd.f18.results.toList (R18.map (·.h)) R18) = F18 k y.1 y.2 := by kernel_rfl
noncomputable def C18 (k : Nat) : Con Tryd.prog := ⟨18, Tryd.f18, Tryd.func18, by kernel_rfl, by kernel_rfl, A18, h18, [], R18, fun y => F18 k y.1 y.2, fun y r h => con_ok good mixed (c := bodyOf Tryd.f18) Tryd.func18 (by kernel_rfl) n18 y ((e18 k y).trans h)⟩
noncomputable def L19_8 (k : Nat) (y3 : (List Int)) (y4 : (List Int)) (z40 : Int) : Option (Int ⊕ Int) :=
((cond (decide (z40 < (y3.length : Int))) (
cond (decide (z40 < (y4.length : Int))) (
(ix y3 z40).bind fun a41 =>
(y3[z40.toNat]?).bind fun a42 =>
(ix y4 z40).bind fun a43 =>
(y4[z40.toNat]?).bind fun a44 =>
some (a42 == a44)) (
some false)) (
some false) : Option Bool)).bind fun y45 => 
cond y45 (
some (.inl (IntKind.wrap .i64 (z40 + 1)))) (
some (.inr z40))
noncomputable def F19 (k : Nat) (x1 : ByteArray) (x2 : ByteArray) : Option Int :=
(F28 k x1).bind fun y3 => 
(F28 k x2).bind fun y4 => 
(loopN (L19_8 k y3 y4) k 0).bind fun y46 => 
some y46
def A19 : CTpl := ⟨[.s, .s], []⟩
def h19 : List HTy := [.ts, .ts]
def R19 : List RTpl := [⟨.i .i64, [], [.ti]⟩]
def n19 : An := .sq (.nd) (.sq (.nd) (.sq (.nd) (.sq (.lp [5, 6] [400900, 401100] ⟨[(7, .i .i64)], []⟩ [.ti] [(2, ⟨[(7, .i .i64)], []⟩)] [[.ti]] (.sq (.jn [7] [] [(0, ⟨[(32, .b)], []⟩)] [[.tb]] (.mk [] [0, 0, 2, 7, 15, 31, 31, 95, 255, 511, 1023, 2047, 2047, 8191, 16383, 2047, 2047, 100351, 231423, 524287, 1048575]) (.nd)) (.nd))) (.nd))))
theorem e19 (k : Nat) (y : Tup h19) : exec (P := Tryd.prog) D (lk rowsL) [C28 k] k (bodyOf Tryd.f19) n19 (fnE Tryd.f19 A19 [] (inOf A19 (ofTup h19 y))) (fnSt [] (inOf A19 (ofTup h19 y))) (leafR D (fnE Tryd.f19 A19 [] (inOf A19 (ofTup h19 y))) Tryd.f19.results.toList (R19.map (·.h)) R19) = F19 k y.1 y.2 := by kernel_rfl
noncomputable def C19 (k : Nat) : Con Tryd.prog := ⟨19, Tryd.f19, Tryd.func19, by kernel_rfl, by kernel_rfl, A19, h19, [], R19, fun y => F19 k y.1 y.2, fun y r h => con_ok good mixed (c := bodyOf Tryd.f19) Tryd.func19 (by kernel_rfl) n19 y ((e19 k y).trans h)⟩
noncomputable def F7 (k : Nat) (x1 : ByteArray) (x2 : ByteArray) : Option Bool :=
(F11 k).bind fun y1 => 
cond y1 (
(F17 k x1 x2).bind fun y2 => 
(F18 k x1 x2).bind fun y3 => 
cond (y2 == y3) (
(F19 k x1 x2).bind fun y4 => 
(F20 k x1 x2).bind fun y5 => 
cond (y4 == y5) (
(F17 k x2 x1).bind fun y6 => 
(F18 k x1 x2).bind fun y7 => 
cond (y6 == (IntKind.wrap .i64 (0 - y7))) (
(F19 k x2 x1).bind fun y8 => 
(F19 k x1 x2).bind fun y9 => 
some (y8 == y9)) (
some false)) (
some false)) (
some false)) (
some false)
def A7 : CTpl := ⟨[.s, .s], []⟩
def h7 : List HTy := [.ts, .ts]
def R7 : List RTpl := [⟨.b, [], [.tb]⟩]
def n7 : An := .nd
theorem e7 (k : Nat) (hm : Mo.m = false) (y : Tup h7) : exec (P := Tryd.prog) D (lk rowsL) [C11 k hm, C17 k, C18 k, C19 k, C20 k] k (bodyOf Tryd.f7) n7 (fnE Tryd.f7 A7 [] (inOf A7 (ofTup h7 y))) (fnSt [] (inOf A7 (ofTup h7 y))) (leafR D (fnE Tryd.f7 A7 [] (inOf A7 (ofTup h7 y))) Tryd.f7.results.toList (R7.map (·.h)) R7) = F7 k y.1 y.2 := by kernel_rfl
noncomputable def C7 (k : Nat) (hm : Mo.m = false) : Con Tryd.prog := ⟨7, Tryd.f7, Tryd.func7, by kernel_rfl, by kernel_rfl, A7, h7, [], R7, fun y => F7 k y.1 y.2, fun y r h => con_ok good mixed (c := bodyOf Tryd.f7) Tryd.func7 (by kernel_rfl) n7 y ((e7 k hm y).trans h)⟩
noncomputable def F8 (k : Nat) (x1 : ByteArray) (x2 : ByteArray) (x3 : ByteArray) : Option Bool :=
(F11 k).bind fun y3 => 
cond (!y3) (
some false) (
(((F17 k x1 x2).bind fun y13 => 
cond (decide (y13 ≤ 0)) (
(F17 k x2 x3).bind fun y14 => 
some (decide (y14 ≤ 0))) (
some false) : Option Bool)).bind fun y15 => 
cond y15 (
(F17 k x1 x3).bind fun y16 => 
cond (decide (y16 ≤ 0)) (
(F19 k x1 x3).bind fun y17 => 
(F19 k x1 x2).bind fun y18 => 
(F19 k x2 x3).bind fun y19 => 
some (decide ((mn y18 y19) ≤ y17))) (
some false)) (
(F17 k x1 x1).bind fun y20 => 
some (y20 == 0)))
def A8 : CTpl := ⟨[.s, .s, .s], []⟩
def h8 : List HTy := [.ts, .ts, .ts]
def R8 : List RTpl := [⟨.b, [], [.tb]⟩]
def n8 : An := .sq (.nd) (.sq (.nd) (.sq (.jn [0, 1, 2] [] [(0, ⟨[(18, .b)], []⟩)] [[.tb]] (.nd) (.nd)) (.nd)))
theorem e8 (k : Nat) (hm : Mo.m = false) (y : Tup h8) : exec (P := Tryd.prog) D (lk rowsL) [C11 k hm, C17 k, C19 k] k (bodyOf Tryd.f8) n8 (fnE Tryd.f8 A8 [] (inOf A8 (ofTup h8 y))) (fnSt [] (inOf A8 (ofTup h8 y))) (leafR D (fnE Tryd.f8 A8 [] (inOf A8 (ofTup h8 y))) Tryd.f8.results.toList (R8.map (·.h)) R8) = F8 k y.1 y.2.1 y.2.2 := by kernel_rfl
noncomputable def C8 (k : Nat) (hm : Mo.m = false) : Con Tryd.prog := ⟨8, Tryd.f8, Tryd.func8, by kernel_rfl, by kernel_rfl, A8, h8, [], R8, fun y => F8 k y.1 y.2.1 y.2.2, fun y r h => con_ok good mixed (c := bodyOf Tryd.f8) Tryd.func8 (by kernel_rfl) n8 y ((e8 k hm y).trans h)⟩
noncomputable def F30 (k : Nat) (x1 : ByteArray) (x2 : Int) : Option ByteArray :=
grd (bnds (x1.size : Int) 0 (mn (x1.size : Int) x2)) <|
some (x1.extract 0 ((mn (x1.size : Int) x2).toNat))
def A30 : CTpl := ⟨[.s, .i .i64], []⟩
def h30 : List HTy := [.ts, .ti]
def R30 : List RTpl := [⟨.s, [], [.ts]⟩]
def n30 : An := .nd
theorem e30 (k : Nat) (y : Tup h30) : exec (P := Tryd.prog) D (lk rowsL) [] k (bodyOf Tryd.f30) n30 (fnE Tryd.f30 A30 [] (inOf A30 (ofTup h30 y))) (fnSt [] (inOf A30 (ofTup h30 y))) (leafR D (fnE Tryd.f30 A30 [] (inOf A30 (ofTup h30 y))) Tryd.f30.results.toList (R30.map (·.h)) R30) = F30 k y.1 y.2 := by kernel_rfl
noncomputable def C30 (k : Nat) : Con Tryd.prog := ⟨30, Tryd.f30, Tryd.func30, by kernel_rfl, by kernel_rfl, A30, h30, [], R30, fun y => F30 k y.1 y.2, fun y r h => con_ok good mixed (c := bodyOf Tryd.f30) Tryd.func30 (by kernel_rfl) n30 y ((e30 k y).trans h)⟩
noncomputable def L21_8 (k : Nat) (x1 : (List ByteArray)) (x2 : Int) (x3 : Int) (z18 : (Int × (List ByteArray))) : Option ((Int × (List ByteArray)) ⊕ (List ByteArray)) :=
((cond (decide (z18.1 < (x1.length : Int))) (
some (decide (z18.1 < x2))) (
some false) : Option Bool)).bind fun y19 => 
cond y19 (
(ix x1 z18.1).bind fun a20 =>
(F30 k a20 x3).bind fun y21 => 
grd (decide ((z18.2.length + [y21].length) * 16 ≤ 140737488355328)) <|
some (.inl ((IntKind.wrap .i64 (z18.1 + 1)), (z18.2 ++ [y21])))) (
some (.inr z18.2))
noncomputable def F21 (k : Nat) (x1 : (List ByteArray)) (x2 : Int) (x3 : Int) : Option (List ByteArray) :=
(loopN (L21_8 k x1 x2 x3) k (0, ([] : List ByteArray))).bind fun y22 => 
some y22
def A21 : CTpl := ⟨[.fz .u (.str .nil), .i .i64, .i .i64], []⟩
def h21 : List HTy := [.tl (.str .nil), .ti, .ti]
def R21 : List RTpl := [⟨.sl .u 500000, [(500000, .ar 9 (.str .nil))], [.tl (.str .nil)]⟩]
def n21 : An := .sq (.nd) (.sq (.nd) (.sq (.sq (.nd) (.lp [0, 1, 2] [] ⟨[(7, .sl .n 300400), (8, .i .i64)], [(300400, .ar 9 (.str .nil))]⟩ [.ti, .tl (.str .nil)] [(2, ⟨[(7, .sl .n 300425)], [(300425, .ar 9 (.str .nil))]⟩)] [[.tl (.str .nil)]] (.sq (.jn [7, 8] [300400] [(0, ⟨[(17, .b)], []⟩)] [[.tb]] (.nd) (.nd)) (.nd)))) (.nd)))
theorem e21 (k : Nat) (y : Tup h21) : exec (P := Tryd.prog) D (lk rowsL) [C30 k] k (bodyOf Tryd.f21) n21 (fnE Tryd.f21 A21 [] (inOf A21 (ofTup h21 y))) (fnSt [] (inOf A21 (ofTup h21 y))) (leafR D (fnE Tryd.f21 A21 [] (inOf A21 (ofTup h21 y))) Tryd.f21.results.toList (R21.map (·.h)) R21) = F21 k y.1 y.2.1 y.2.2 := by kernel_rfl
noncomputable def C21 (k : Nat) : Con Tryd.prog := ⟨21, Tryd.f21, Tryd.func21, by kernel_rfl, by kernel_rfl, A21, h21, [], R21, fun y => F21 k y.1 y.2.1 y.2.2, fun y r h => con_ok good mixed (c := bodyOf Tryd.f21) Tryd.func21 (by kernel_rfl) n21 y ((e21 k y).trans h)⟩
noncomputable def F31 (k : Nat) (x1 : (List ByteArray)) : Option (List ByteArray) :=
nilT x1.isEmpty (
some ([] : List ByteArray)) (
grd (decide ((([] : List ByteArray).length + x1.length) * 16 ≤ 140737488355328)) <|
some (([] : List ByteArray) ++ x1))
def A31 : CTpl := ⟨[.fz .u (.str .nil)], []⟩
def h31 : List HTy := [.tl (.str .nil)]
def R31 : List RTpl := [⟨.sl .u 500000, [(500000, .ar 9 (.str .nil))], [.tl (.str .nil)]⟩]
def n31 : An := .nd
theorem e31 (k : Nat) (y : Tup h31) : exec (P := Tryd.prog) D (lk rowsL) [] k (bodyOf Tryd.f31) n31 (fnE Tryd.f31 A31 [] (inOf A31 (ofTup h31 y))) (fnSt [] (inOf A31 (ofTup h31 y))) (leafR D (fnE Tryd.f31 A31 [] (inOf A31 (ofTup h31 y))) Tryd.f31.results.toList (R31.map (·.h)) R31) = F31 k y := by kernel_rfl
noncomputable def C31 (k : Nat) : Con Tryd.prog := ⟨31, Tryd.f31, Tryd.func31, by kernel_rfl, by kernel_rfl, A31, h31, [], R31, fun y => F31 k y, fun y r h => con_ok good mixed (c := bodyOf Tryd.f31) Tryd.func31 (by kernel_rfl) n31 y ((e31 k y).trans h)⟩
noncomputable def F34 (k : Nat) (x1 : ByteArray) (x2 : ByteArray) : Option Int :=
some (Go.Lib.compareBytes x1.data.toList x2.data.toList)
def A34 : CTpl := ⟨[.s, .s], []⟩
def h34 : List HTy := [.ts, .ts]
def R34 : List RTpl := [⟨.i .i64, [], [.ti]⟩]
def n34 : An := .nd
noncomputable def C34 (k : Nat) : Con Tryd.prog := ⟨34, Tryd.f34, Tryd.func34, by kernel_rfl, by kernel_rfl, A34, h34, [], R34, fun y => F34 k y.1 y.2, fun y r h => by
  have h2 : some (Go.Lib.compareBytes y.1.data.toList y.2.data.toList) = some r := h
  cases h2
  exact CTx.lib (vs := [.string y.1, .string y.2]) rfl (fun _ _ _ => .t _ _ (.sc _ rfl)) fun w _ => (Tryd.strings_Compare y.1 y.2 w).mono fun e w2 g => ⟨g.1, by rw [g.2]; exact Below.refl _ _, fun _ => by rw [g.2]; exact Nat.le_refl _⟩⟩
noncomputable def F33 (k : Nat) (x1 : ByteArray) (x2 : ByteArray) : Option Int :=
(F17 k x1 x2).bind fun y3 => 
cond (y3 != 0) (
some y3) (
(F34 k x1 x2).bind fun y4 => 
some y4)
def A33 : CTpl := ⟨[.s, .s], []⟩
def h33 : List HTy := [.ts, .ts]
def R33 : List RTpl := [⟨.i .i64, [], [.ti]⟩]
def n33 : An := .nd
theorem e33 (k : Nat) (y : Tup h33) : exec (P := Tryd.prog) D (lk rowsL) [C17 k, C34 k] k (bodyOf Tryd.f33) n33 (fnE Tryd.f33 A33 [] (inOf A33 (ofTup h33 y))) (fnSt [] (inOf A33 (ofTup h33 y))) (leafR D (fnE Tryd.f33 A33 [] (inOf A33 (ofTup h33 y))) Tryd.f33.results.toList (R33.map (·.h)) R33) = F33 k y.1 y.2 := by kernel_rfl
noncomputable def C33 (k : Nat) : Con Tryd.prog := ⟨33, Tryd.f33, Tryd.func33, by kernel_rfl, by kernel_rfl, A33, h33, [], R33, fun y => F33 k y.1 y.2, fun y r h => con_ok good mixed (c := bodyOf Tryd.f33) Tryd.func33 (by kernel_rfl) n33 y ((e33 k y).trans h)⟩
noncomputable def F32 (k : Nat) (x1 : (List ByteArray)) : Option (List ByteArray) :=
sortF (F33 k) x1
def A32 : CTpl := ⟨[.sl .u 1000000, .c (.func (.func 33) #[] #[])], [(1000000, .ar 9 (.str .nil))]⟩
def h32 : List HTy := [.tl (.str .nil)]
def R32 : List RTpl := [⟨.tp [], [(1000000, .ar 9 (.str .nil))], [.tl (.str .nil)]⟩]
def n32 : An := .nd
noncomputable def C32 (k : Nat) : Con Tryd.prog := ⟨32, Tryd.f32, Tryd.func32, by kernel_rfl, by kernel_rfl, A32, h32, [], R32, fun y => F32 k y, fun y r h => by
  have h2 : sortF (F33 k) y = some r := h
  exact CTx.sortFunc (ρ := Tryd.laysSlF6_f32_ren) Tryd.laysSlF6_f32 { Tryd.laysSlF6_f32 with } (enters Tryd.func33 (by kernel_rfl) (by kernel_rfl)) (fun a b n g => @Con.ok ⟨true⟩ _ (@C33 ⟨true⟩ k) (a, b) n g) 9 h2⟩
noncomputable def L35_32 (k : Nat) (z156 : (Int × (List ByteArray))) (z161 : (Int × Int × (List ByteArray))) : Option ((Int × Int × (List ByteArray)) ⊕ (Int × (List ByteArray))) :=
cond (decide (z161.2.1 < (((((z156.2.length : Int).toNat) - z156.1.toNat) : Nat) : Int))) (
((grd (decide (0 ≤ z161.2.1 ∧ z161.2.1 < (((((z156.2.length : Int).toNat) - z156.1.toNat) : Nat) : Int))) <|
(z161.2.2[(z156.1.toNat + z161.2.1.toNat)]?).bind fun a162 =>
grd (decide (0 ≤ (IntKind.wrap .i64 (z161.2.1 - 1)) ∧ (IntKind.wrap .i64 (z161.2.1 - 1)) < (((((z156.2.length : Int).toNat) - z156.1.toNat) : Nat) : Int))) <|
(z161.2.2[(z156.1.toNat + ((IntKind.wrap .i64 (z161.2.1 - 1)).toNat))]?).bind fun a163 =>
cond (!(a162.toList == a163.toList)) (
grd (decide (0 ≤ z161.2.1 ∧ z161.2.1 < (((((z156.2.length : Int).toNat) - z156.1.toNat) : Nat) : Int))) <|
(z161.2.2[(z156.1.toNat + z161.2.1.toNat)]?).bind fun a164 =>
(ix z161.2.2 z161.1).bind fun a165 =>
((z161.2.2[z161.1.toNat]?).bind fun a166 => some a164).bind fun a167 =>
some ((IntKind.wrap .i64 (z161.1 + 1)), (z161.2.2.set z161.1.toNat a167))) (
some (z161.1, z161.2.2)) : Option (Int × (List ByteArray)))).bind fun y168 => 
some (.inl (y168.1, (IntKind.wrap .i64 (z161.2.1 + 1)), y168.2))) (
some (.inr (z161.1, z161.2.2)))
noncomputable def L35_14 (k : Nat) (z156 : (Int × (List ByteArray))) : Option ((Int × (List ByteArray)) ⊕ ((Nat × Nat × (List ByteArray)) ⊕ (List ByteArray))) :=
cond (decide (z156.1 < (z156.2.length : Int))) (
(ix z156.2 z156.1).bind fun a157 =>
(z156.2[z156.1.toNat]?).bind fun a158 =>
(ix z156.2 (IntKind.wrap .i64 (z156.1 - 1))).bind fun a159 =>
(z156.2[(IntKind.wrap .i64 (z156.1 - 1)).toNat]?).bind fun a160 =>
cond (a158.toList == a160.toList) (
grd (bnds (z156.2.length : Int) z156.1 (z156.2.length : Int)) <|
(loopN (L35_32 k z156) k (z156.1, 1, z156.2)).bind fun y169 => 
grd (bnds (y169.2.length : Int) y169.1 (y169.2.length : Int)) <|
grd (bnds ((y169.2.take y169.1.toNat ++ List.replicate (((y169.2.length : Int).toNat) - y169.1.toNat) ByteArray.empty ++ y169.2.drop (y169.1.toNat + (((y169.2.length : Int).toNat) - y169.1.toNat))).length : Int) 0 y169.1) <|
some (.inr (.inl (0, (y169.1.toNat - 0), (y169.2.take y169.1.toNat ++ List.replicate (((y169.2.length : Int).toNat) - y169.1.toNat) ByteArray.empty ++ y169.2.drop (y169.1.toNat + (((y169.2.length : Int).toNat) - y169.1.toNat))))))) (
some (.inl ((IntKind.wrap .i64 (z156.1 + 1)), z156.2)))) (
some (.inr (.inr z156.2)))
noncomputable def F35 (k : Nat) (x1 : (List ByteArray)) : Option (List ByteArray) :=
cond (decide ((x1.length : Int) < 2)) (
some x1) (
(loopN (L35_14 k) k (1, x1)).bind fun y170 => 
sel (fun y171 =>
some ((y171.2.2.drop y171.1).take y171.2.1)) (fun y172 =>
some y172) y170)
def A35 : CTpl := ⟨[.sl .u 1000000], [(1000000, .ar 9 (.str .nil))]⟩
def h35 : List HTy := [.tl (.str .nil)]
def R35 : List RTpl := [⟨.fz .u (.str .nil), [(1000000, .gone)], [.tl (.str .nil)]⟩]
def n35 : An := .sq (.nd) (.sq (.nd) (.sq (.sq (.nd) (.lp [0] [] ⟨[(3, .i .i64)], [(1000000, .ar 9 (.str .nil))]⟩ [.ti, .tl (.str .nil)] [(1, ⟨[(2, .sw 1000000)], [(1000000, .ar 9 (.str .nil))]⟩), (2, ⟨[], [(1000000, .ar 9 (.str .nil))]⟩)] [[.tn, .tn, .tl (.str .nil)], [.tl (.str .nil)]] (.sq (.nd) (.sq (.sq (.mk [] [0, 0, 3, 7, 0, 0, 32, 112, 240, 511]) (.sq (.sq (.nd) (.sq (.sq (.nd) (.lp [4] [] ⟨[(3, .i .i64), (5, .i .i64)], [(1000000, .ar 9 (.str .nil))]⟩ [.ti, .ti, .tl (.str .nil)] [(4, ⟨[(3, .i .i64)], [(1000000, .ar 9 (.str .nil))]⟩)] [[.ti, .tl (.str .nil)]] (.sq (.nd) (.jn [5] [] [(0, ⟨[(3, .i .i64)], [(1000000, .ar 9 (.str .nil))]⟩)] [[.ti, .tl (.str .nil)]] (.sq (.mk [] [0, 0, 3, 7, 0, 0, 32, 112, 240, 511]) (.nd)) (.nd))))) (.nd))) (.nd))) (.nd))))) (.nd)))
theorem e35 (k : Nat) (y : Tup h35) : exec (P := Tryd.prog) D (lk rowsL) [] k (bodyOf Tryd.f35) n35 (fnE Tryd.f35 A35 [] (inOf A35 (ofTup h35 y))) (fnSt [] (inOf A35 (ofTup h35 y))) (leafR D (fnE Tryd.f35 A35 [] (inOf A35 (ofTup h35 y))) Tryd.f35.results.toList (R35.map (·.h)) R35) = F35 k y := by kernel_rfl
noncomputable def C35 (k : Nat) : Con Tryd.prog := ⟨35, Tryd.f35, Tryd.func35, by kernel_rfl, by kernel_rfl, A35, h35, [], R35, fun y => F35 k y, fun y r h => con_ok good mixed (c := bodyOf Tryd.f35) Tryd.func35 (by kernel_rfl) n35 y ((e35 k y).trans h)⟩
noncomputable def F23 (k : Nat) (x1 : (List ByteArray)) : Option (List ByteArray) :=
(F31 k x1).bind fun y2 => 
(F32 k y2).bind fun y4 => 
(F35 k y4).bind fun y5 => 
some y5
def A23 : CTpl := ⟨[.fz .u (.str .nil)], []⟩
def h23 : List HTy := [.tl (.str .nil)]
def R23 : List RTpl := [⟨.fz .u (.str .nil), [], [.tl (.str .nil)]⟩]
def n23 : An := .nd
theorem e23 (k : Nat) (y : Tup h23) : exec (P := Tryd.prog) D (lk rowsL) [C31 k, C32 k, C35 k] k (bodyOf Tryd.f23) n23 (fnE Tryd.f23 A23 [] (inOf A23 (ofTup h23 y))) (fnSt [] (inOf A23 (ofTup h23 y))) (leafR D (fnE Tryd.f23 A23 [] (inOf A23 (ofTup h23 y))) Tryd.f23.results.toList (R23.map (·.h)) R23) = F23 k y := by kernel_rfl
noncomputable def C23 (k : Nat) : Con Tryd.prog := ⟨23, Tryd.f23, Tryd.func23, by kernel_rfl, by kernel_rfl, A23, h23, [], R23, fun y => F23 k y, fun y r h => con_ok good mixed (c := bodyOf Tryd.f23) Tryd.func23 (by kernel_rfl) n23 y ((e23 k y).trans h)⟩
noncomputable def F36 (k : Nat) (x1 : ByteArray) (x2 : ByteArray) : Option Bool :=
(F18 k x1 x2).bind fun y2 => 
cond (decide (y2 < 0)) (
some true) (
cond (y2 == 0) (
some (Op.bytesLess x1.toList x2.toList)) (
some false))
def A36 : CTpl := ⟨[.s, .s], []⟩
def h36 : List HTy := [.ts, .ts]
def R36 : List RTpl := [⟨.b, [], [.tb]⟩]
def n36 : An := .nd
theorem e36 (k : Nat) (y : Tup h36) : exec (P := Tryd.prog) D (lk rowsL) [C18 k] k (bodyOf Tryd.f36) n36 (fnE Tryd.f36 A36 [] (inOf A36 (ofTup h36 y))) (fnSt [] (inOf A36 (ofTup h36 y))) (leafR D (fnE Tryd.f36 A36 [] (inOf A36 (ofTup h36 y))) Tryd.f36.results.toList (R36.map (·.h)) R36) = F36 k y.1 y.2 := by kernel_rfl
noncomputable def C36 (k : Nat) : Con Tryd.prog := ⟨36, Tryd.f36, Tryd.func36, by kernel_rfl, by kernel_rfl, A36, h36, [], R36, fun y => F36 k y.1 y.2, fun y r h => con_ok good mixed (c := bodyOf Tryd.f36) Tryd.func36 (by kernel_rfl) n36 y ((e36 k y).trans h)⟩
noncomputable def L24_21 (k : Nat) (x1 : (List ByteArray)) (z115 : (Int × (List ByteArray))) (z116 : Int) : Option (Int ⊕ Int) :=
((cond (decide (z116 < (z115.2.length : Int))) (
(ix z115.2 z116).bind fun a117 =>
(z115.2[z116.toNat]?).bind fun a118 =>
(ix x1 z115.1).bind fun a119 =>
(F36 k a118 a119).bind fun y120 => 
some y120) (
some false) : Option Bool)).bind fun y121 => 
cond y121 (
some (.inl (IntKind.wrap .i64 (z116 + 1)))) (
some (.inr z116))
noncomputable def L24_8 (k : Nat) (x1 : (List ByteArray)) (z115 : (Int × (List ByteArray))) : Option ((Int × (List ByteArray)) ⊕ (List ByteArray)) :=
cond (decide (z115.1 < (x1.length : Int))) (
(((loopN (L24_21 k x1 z115) k 0).bind fun y122 => 
((cond (decide (y122 < (z115.2.length : Int))) (
(ix z115.2 y122).bind fun a123 =>
(z115.2[y122.toNat]?).bind fun a124 =>
(ix x1 z115.1).bind fun a125 =>
some (a124.toList == a125.toList)) (
some false) : Option Bool)).bind fun y126 => 
cond y126 (
some z115.2) (
grd (bnds (z115.2.length : Int) 0 y122) <|
grd (decide ((([] : List ByteArray).length + ((z115.2.drop 0).take (y122.toNat - 0)).length) * 16 ≤ 140737488355328)) <|
(ix x1 z115.1).bind fun a127 =>
grd (decide (((([] : List ByteArray) ++ ((z115.2.drop 0).take (y122.toNat - 0))).length + [a127].length) * 16 ≤ 140737488355328)) <|
grd (bnds (z115.2.length : Int) y122 (z115.2.length : Int)) <|
grd (decide ((((([] : List ByteArray) ++ ((z115.2.drop 0).take (y122.toNat - 0))) ++ [a127]).length + ((z115.2.drop y122.toNat).take (((z115.2.length : Int).toNat) - y122.toNat)).length) * 16 ≤ 140737488355328)) <|
some (((([] : List ByteArray) ++ ((z115.2.drop 0).take (y122.toNat - 0))) ++ [a127]) ++ ((z115.2.drop y122.toNat).take (((z115.2.length : Int).toNat) - y122.toNat)))) : Option (List ByteArray))).bind fun y128 => 
some (.inl ((IntKind.wrap .i64 (z115.1 + 1)), y128))) (
some (.inr z115.2))
noncomputable def F24 (k : Nat) (x1 : (List ByteArray)) : Option (List ByteArray) :=
(loopN (L24_8 k x1) k (0, ([] : List ByteArray))).bind fun y129 => 
some y129
def A24 : CTpl := ⟨[.fz .u (.str .nil)], []⟩
def h24 : List HTy := [.tl (.str .nil)]
def R24 : List RTpl := [⟨.sl .u 500000, [(500000, .ar 9 (.str .nil))], [.tl (.str .nil)]⟩]
def n24 : An := .sq (.nd) (.sq (.nd) (.sq (.sq (.nd) (.lp [0] [] ⟨[(3, .sl .n 300400), (4, .i .i64)], [(300400, .ar 9 (.str .nil))]⟩ [.ti, .tl (.str .nil)] [(2, ⟨[(3, .sl .n 300425)], [(300425, .ar 9 (.str .nil))]⟩)] [[.tl (.str .nil)]] (.sq (.nd) (.jn [4] [] [(0, ⟨[(3, .sl .n 300750)], [(300750, .ar 9 (.str .nil))]⟩)] [[.tl (.str .nil)]] (.sq (.nd) (.sq (.lp [3] [300400] ⟨[(5, .i .i64)], []⟩ [.ti] [(4, ⟨[(5, .i .i64)], []⟩)] [[.ti]] (.sq (.jn [5] [] [(0, ⟨[(26, .b)], []⟩)] [[.tb]] (.mk [] [0, 0, 2, 7, 15, 31, 31, 127, 255, 31, 31, 1567, 3615, 8191, 16383]) (.nd)) (.nd))) (.sq (.jn [3, 5] [300400] [(0, ⟨[(43, .b)], []⟩)] [[.tb]] (.mk [] [0, 0, 2, 7, 15, 31, 31, 127, 255, 31, 31, 1567, 3615, 8191, 16383]) (.nd)) (.mk [] [0, 0, 3, 7, 0, 0, 48, 112, 240, 511, 0, 0, 3072, 8191, 16383])))) (.nd))))) (.nd)))
theorem e24 (k : Nat) (y : Tup h24) : exec (P := Tryd.prog) D (lk rowsL) [C36 k] k (bodyOf Tryd.f24) n24 (fnE Tryd.f24 A24 [] (inOf A24 (ofTup h24 y))) (fnSt [] (inOf A24 (ofTup h24 y))) (leafR D (fnE Tryd.f24 A24 [] (inOf A24 (ofTup h24 y))) Tryd.f24.results.toList (R24.map (·.h)) R24) = F24 k y := by kernel_rfl
noncomputable def C24 (k : Nat) : Con Tryd.prog := ⟨24, Tryd.f24, Tryd.func24, by kernel_rfl, by kernel_rfl, A24, h24, [], R24, fun y => F24 k y, fun y r h => con_ok good mixed (c := bodyOf Tryd.f24) Tryd.func24 (by kernel_rfl) n24 y ((e24 k y).trans h)⟩
noncomputable def L22_14 (k : Nat) (x1 : (List ByteArray)) (x2 : (List ByteArray)) (z15 : Int) : Option (Int ⊕ (Unit ⊕ Unit)) :=
cond (decide (z15 < (x1.length : Int))) (
(ix x1 z15).bind fun a16 =>
(ix x2 z15).bind fun a17 =>
cond (!(a16.toList == a17.toList)) (
some (.inr (.inl ()))) (
some (.inl (IntKind.wrap .i64 (z15 + 1))))) (
some (.inr (.inr ())))
noncomputable def F22 (k : Nat) (x1 : (List ByteArray)) (x2 : (List ByteArray)) : Option Bool :=
cond ((x1.length : Int) != (x2.length : Int)) (
some false) (
(loopN (L22_14 k x1 x2) k 0).bind fun y18 => 
sel (fun y19 =>
some false) (fun y20 =>
some true) y18)
def A22 : CTpl := ⟨[.fz .u (.str .nil), .fz .u (.str .nil)], []⟩
def h22 : List HTy := [.tl (.str .nil), .tl (.str .nil)]
def R22 : List RTpl := [⟨.b, [], [.tb]⟩]
def n22 : An := .sq (.nd) (.sq (.nd) (.sq (.sq (.nd) (.lp [0, 1] [] ⟨[(5, .i .i64)], []⟩ [.ti] [(1, ⟨[(4, .lb false)], []⟩), (2, ⟨[], []⟩)] [[], []] (.sq (.nd) (.sq (.sq (.mk [] [0, 0, 3, 7, 0, 0, 48, 112, 255]) (.nd)) (.nd))))) (.nd)))
theorem e22 (k : Nat) (y : Tup h22) : exec (P := Tryd.prog) D (lk rowsL) [] k (bodyOf Tryd.f22) n22 (fnE Tryd.f22 A22 [] (inOf A22 (ofTup h22 y))) (fnSt [] (inOf A22 (ofTup h22 y))) (leafR D (fnE Tryd.f22 A22 [] (inOf A22 (ofTup h22 y))) Tryd.f22.results.toList (R22.map (·.h)) R22) = F22 k y.1 y.2 := by kernel_rfl
noncomputable def C22 (k : Nat) : Con Tryd.prog := ⟨22, Tryd.f22, Tryd.func22, by kernel_rfl, by kernel_rfl, A22, h22, [], R22, fun y => F22 k y.1 y.2, fun y r h => con_ok good mixed (c := bodyOf Tryd.f22) Tryd.func22 (by kernel_rfl) n22 y ((e22 k y).trans h)⟩
noncomputable def F9 (k : Nat) (x1 : (List ByteArray)) : Option Bool :=
(F21 k x1 30 40).bind fun y2 => 
(F11 k).bind fun y3 => 
cond y3 (
(F23 k y2).bind fun y4 => 
(F24 k y2).bind fun y5 => 
(F22 k y4 y5).bind fun y6 => 
some y6) (
some false)
def A9 : CTpl := ⟨[.fz .u (.str .nil)], []⟩
def h9 : List HTy := [.tl (.str .nil)]
def R9 : List RTpl := [⟨.b, [], [.tb]⟩]
def n9 : An := .sq (.nd) (.sq (.nd) (.sq (.fr [(3, 400400), (6, 401000)]) (.nd)))
theorem e9 (k : Nat) (hm : Mo.m = false) (y : Tup h9) : exec (P := Tryd.prog) D (lk rowsL) [C21 k, C11 k hm, C23 k, C24 k, C22 k] k (bodyOf Tryd.f9) n9 (fnE Tryd.f9 A9 [] (inOf A9 (ofTup h9 y))) (fnSt [] (inOf A9 (ofTup h9 y))) (leafR D (fnE Tryd.f9 A9 [] (inOf A9 (ofTup h9 y))) Tryd.f9.results.toList (R9.map (·.h)) R9) = F9 k y := by kernel_rfl
noncomputable def C9 (k : Nat) (hm : Mo.m = false) : Con Tryd.prog := ⟨9, Tryd.f9, Tryd.func9, by kernel_rfl, by kernel_rfl, A9, h9, [], R9, fun y => F9 k y, fun y r h => con_ok good mixed (c := bodyOf Tryd.f9) Tryd.func9 (by kernel_rfl) n9 y ((e9 k hm y).trans h)⟩
end Go.Proofs.YtlhcebhalhgmaaaDoor.N

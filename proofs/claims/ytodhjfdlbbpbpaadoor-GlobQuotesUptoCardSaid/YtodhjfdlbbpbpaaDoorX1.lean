/- What the functions compute, natively, and that they do. Printed by a program (wip/xg). -/
import Derived.Test.YtodhjfdlbbpbpaaDoorMc3
import Derived.Test.YtodhjfdlbbpbpaaDoorProg
import Derived.Test.YtodhjfdlbbpbpaaDoorShelf
import Derived.Test.YtodhjfdlbbpbpaaDoorBld
namespace Go.Proofs.YtodhjfdlbbpbpaaDoor.N
open Go Go.RowKit Go.Proofs.YtodhjfdlbbpbpaaDoor.Mc Go.Proofs
set_option maxRecDepth 100000
set_option maxHeartbeats 0
set_option linter.unusedVariables false
noncomputable abbrev D := decOf Tryd.prog
theorem good : Go.Proofs.YtodhjfdlbbpbpaaDoor.Mc.Good Tryd.prog D := good_of _
theorem mixed : Tryd.prog.follows .mixedOrders = true := by kernel_rfl
def rowsL : List (Nat × Row) := [(22, (.int .u8 .nil)), (34, (.int .i64 (.int .i32 (.str (.bool (.sl (.int .i32 (.int .i32 .nil)) .nil)))))), (37, (.int .i32 (.str .nil))), (39, (.int .i32 (.int .i32 .nil))), (56, (.int .i32 .nil))]
variable [Mo]
noncomputable def F19 (k : Nat) (x1 : ByteArray) : Option (Int × Int) :=
some (((Go.Lib.decodeGo x1).1 : Int), ((Go.Lib.decodeGo x1).2 : Int))
def A19 : CTpl := ⟨[.s], []⟩
def h19 : List HTy := [.ts]
def R19 : List RTpl := [⟨.tp [.i .i32, .i .i64], [], [.ti, .ti]⟩]
def n19 : An := .nd
noncomputable def C19 (k : Nat) (hm : Mo.m = false) : Con Tryd.prog := ⟨19, Tryd.f19, Tryd.func19, by kernel_rfl, by kernel_rfl, A19, h19, [], R19, fun y => F19 k y, fun y r h => by
  have h2 : some (((Go.Lib.decodeGo y).1 : Int), ((Go.Lib.decodeGo y).2 : Int)) = some r := h
  cases h2
  exact CTx.lib (vs := [.string y]) rfl (fun _ _ _ => relV_two) fun w hw => (Tryd.utf8_DecodeRuneInString y w (tabs_of (by kernel_rfl) (by kernel_rfl) hw)).mono fun e w2 g => ⟨g.1, g.2, fun g2 => by rw [hm] at g2; cases g2⟩⟩
noncomputable def L17_8 (k : Nat) (x1 : ByteArray) (z8 : (ByteArray × Nat × (List (Int × ByteArray)))) : Option ((ByteArray × Nat × (List (Int × ByteArray))) ⊕ (ByteArray × Nat × (List (Int × ByteArray)))) :=
cond (decide (z8.2.1 < z8.1.size)) (
grd (bnds (x1.size : Int) (z8.2.1 : Int) (x1.size : Int)) <|
(F19 k (x1.extract ((z8.2.1 : Int).toNat) ((x1.size : Int).toNat))).bind fun y9 => 
grd (bnds (x1.size : Int) (z8.2.1 : Int) (IntKind.wrap .i64 ((z8.2.1 : Int) + y9.2))) <|
grd (decide ((z8.2.2.length + [(((Utf8.decode z8.1 z8.2.1).1 : Int), (x1.extract ((z8.2.1 : Int).toNat) ((IntKind.wrap .i64 ((z8.2.1 : Int) + y9.2)).toNat)))].length) * 24 ≤ 140737488355328)) <|
some (.inl (z8.1, (z8.2.1 + (Utf8.decode z8.1 z8.2.1).2), (z8.2.2 ++ [(((Utf8.decode z8.1 z8.2.1).1 : Int), (x1.extract ((z8.2.1 : Int).toNat) ((IntKind.wrap .i64 ((z8.2.1 : Int) + y9.2)).toNat)))])))) (
some (.inr (z8.1, z8.2.1, z8.2.2)))
noncomputable def F17 (k : Nat) (x1 : ByteArray) : Option (List (Int × ByteArray)) :=
(loopN (L17_8 k x1) k (x1, 0, ([] : List (Int × ByteArray)))).bind fun y10 => 
some y10.2.2
def A17 : CTpl := ⟨[.s], []⟩
def h17 : List HTy := [.ts]
def R17 : List RTpl := [⟨.sl .u 500000, [(500000, .ar 44 (.int .i32 (.str .nil)))], [.tl (.int .i32 (.str .nil))]⟩]
def n17 : An := .sq (.nd) (.sq (.nd) (.sq (.sq (.nd) (.lp [0, 9] [] ⟨[(3, .sl .n 300400)], [(9, .si), (300400, .ar 44 (.int .i32 (.str .nil)))]⟩ [.ts, .tn, .tl (.int .i32 (.str .nil))] [(2, ⟨[(3, .sl .n 300425)], [(9, .si), (300425, .ar 44 (.int .i32 (.str .nil)))]⟩)] [[.ts, .tn, .tl (.int .i32 (.str .nil))]] (.nd))) (.nd)))
theorem e17 (k : Nat) (hm : Mo.m = false) (y : Tup h17) : exec (P := Tryd.prog) D (lk rowsL) [C19 k hm] k (bodyOf Tryd.f17) n17 (fnE Tryd.f17 A17 [] (inOf A17 (ofTup h17 y))) (fnSt [] (inOf A17 (ofTup h17 y))) (leafR D (fnE Tryd.f17 A17 [] (inOf A17 (ofTup h17 y))) Tryd.f17.results.toList (R17.map (·.h)) R17) = F17 k y := by kernel_rfl
noncomputable def C17 (k : Nat) (hm : Mo.m = false) : Con Tryd.prog := ⟨17, Tryd.f17, Tryd.func17, by kernel_rfl, by kernel_rfl, A17, h17, [], R17, fun y => F17 k y, fun y r h => con_ok good mixed (c := bodyOf Tryd.f17) Tryd.func17 (by kernel_rfl) n17 y ((e17 k hm y).trans h)⟩
noncomputable def F29 (k : Nat) (x1 : Nat) (x2 : Nat) (x3 : (List (Int × ByteArray))) : Option (Int × Int × Bool) :=
((cond ((x2 : Int) == 0) (
some true) (
grd (decide (0 ≤ (0 : Int) ∧ (0 : Int) < (x2 : Int))) <|
(x3[(x1 + 0)]?).bind fun a8 =>
cond (a8.1 == 93) (
some true) (
grd (decide (0 ≤ (0 : Int) ∧ (0 : Int) < (x2 : Int))) <|
(x3[(x1 + 0)]?).bind fun a9 =>
some (a9.1 == 45))) : Option Bool)).bind fun y10 => 
cond y10 (
some (0, 0, false)) (
grd (decide (0 ≤ (0 : Int) ∧ (0 : Int) < (x2 : Int))) <|
(x3[(x1 + 0)]?).bind fun a11 =>
cond (a11.1 != 92) (
grd (decide (0 ≤ (0 : Int) ∧ (0 : Int) < (x2 : Int))) <|
(x3[(x1 + 0)]?).bind fun a12 =>
some (a12.1, 1, true)) (
cond (decide ((x2 : Int) < 2)) (
some (0, 0, false)) (
grd (decide (0 ≤ (1 : Int) ∧ (1 : Int) < (x2 : Int))) <|
(x3[(x1 + 1)]?).bind fun a13 =>
some (a13.1, 2, true))))
def A29 : CTpl := ⟨[.sw 1000000], [(1000000, .ar 44 (.int .i32 (.str .nil)))]⟩
def h29 : List HTy := [.tn, .tn, .tl (.int .i32 (.str .nil))]
def R29 : List RTpl := [⟨.tp [.i .i32, .i .i64, .b], [], [.ti, .ti, .tb]⟩]
def n29 : An := .sq (.nd) (.sq (.jn [0] [] [(0, ⟨[(5, .b)], []⟩)] [[.tb]] (.nd) (.nd)) (.nd))
theorem e29 (k : Nat) (y : Tup h29) : exec (P := Tryd.prog) D (lk rowsL) [] k (bodyOf Tryd.f29) n29 (fnE Tryd.f29 A29 [1000000] (inOf A29 (ofTup h29 y))) (fnSt [1000000] (inOf A29 (ofTup h29 y))) (leafR D (fnE Tryd.f29 A29 [1000000] (inOf A29 (ofTup h29 y))) Tryd.f29.results.toList (R29.map (·.h)) R29) = F29 k y.1 y.2.1 y.2.2 := by kernel_rfl
noncomputable def C29 (k : Nat) : Con Tryd.prog := ⟨29, Tryd.f29, Tryd.func29, by kernel_rfl, by kernel_rfl, A29, h29, [1000000], R29, fun y => F29 k y.1 y.2.1 y.2.2, fun y r h => con_ok good mixed (c := bodyOf Tryd.f29) Tryd.func29 (by kernel_rfl) n29 y ((e29 k y).trans h)⟩
noncomputable def L25_16 (k : Nat) (x1 : Nat) (x2 : Nat) (x3 : (List (Int × ByteArray))) (z98 : (Int × ByteArray × ByteArray × Bool × (List (Int × Int)))) : Option ((Int × ByteArray × ByteArray × Bool × (List (Int × Int))) ⊕ ((ByteArray × Bool × ByteArray × Bool × (List (Int × Int))) ⊕ (Int × ByteArray × ByteArray × Bool × (List (Int × Int))))) :=
((cond (decide (z98.1 < (x2 : Int))) (
grd (decide (0 ≤ z98.1 ∧ z98.1 < (x2 : Int))) <|
(x3[(x1 + z98.1.toNat)]?).bind fun a99 =>
some (a99.1 != 93)) (
some false) : Option Bool)).bind fun y100 => 
cond y100 (
grd (bnds (x2 : Int) z98.1 (x2 : Int)) <|
(F29 k (x1 + z98.1.toNat) (((x2 : Int).toNat) - z98.1.toNat) x3).bind fun y101 => 
cond (!y101.2.2) (
some (.inr (.inl (z98.2.2.1, z98.2.2.2.1, z98.2.2.1, z98.2.2.2.1, z98.2.2.2.2)))) (
((((cond (decide ((IntKind.wrap .i64 (z98.1 + y101.2.1)) < (x2 : Int))) (
grd (decide (0 ≤ (IntKind.wrap .i64 (z98.1 + y101.2.1)) ∧ (IntKind.wrap .i64 (z98.1 + y101.2.1)) < (x2 : Int))) <|
(x3[(x1 + ((IntKind.wrap .i64 (z98.1 + y101.2.1)).toNat))]?).bind fun a102 =>
some (a102.1 == 45)) (
some false) : Option Bool)).bind fun y103 => 
cond y103 (
grd (bnds (x2 : Int) (IntKind.wrap .i64 ((IntKind.wrap .i64 (z98.1 + y101.2.1)) + 1)) (x2 : Int)) <|
(F29 k (x1 + ((IntKind.wrap .i64 ((IntKind.wrap .i64 (z98.1 + y101.2.1)) + 1)).toNat)) (((x2 : Int).toNat) - ((IntKind.wrap .i64 ((IntKind.wrap .i64 (z98.1 + y101.2.1)) + 1)).toNat)) x3).bind fun y104 => 
((cond (!y104.2.2) (
some true) (
some (decide (y104.1 < y101.1))) : Option Bool)).bind fun y105 => 
cond y105 (
some (.inr (z98.2.2.1, z98.2.2.2.1))) (
some (.inl ((IntKind.wrap .i64 ((IntKind.wrap .i64 (z98.1 + y101.2.1)) + (IntKind.wrap .i64 (1 + y104.2.1)))), y104.1, z98.2.1)))) (
some (.inl ((IntKind.wrap .i64 (z98.1 + y101.2.1)), y101.1, z98.2.1))) : Option ((Int × Int × ByteArray) ⊕ (ByteArray × Bool)))).bind fun y106 => 
sel (fun y107 =>
grd (decide ((z98.2.2.2.2.length + [(y101.1, y107.2.1)].length) * 8 ≤ 140737488355328)) <|
some (.inl (y107.1, y107.2.2, z98.2.2.1, z98.2.2.2.1, (z98.2.2.2.2 ++ [(y101.1, y107.2.1)])))) (fun y108 =>
some (.inr (.inl (y108.1, y108.2, z98.2.2.1, z98.2.2.2.1, z98.2.2.2.2)))) y106)) (
some (.inr (.inr (z98.1, z98.2.1, z98.2.2.1, z98.2.2.2.1, z98.2.2.2.2))))
noncomputable def F25 (k : Nat) (x1 : Nat) (x2 : Nat) (x3 : (List (Int × ByteArray))) : Option (Int × Int × ByteArray × Bool × (List (Int × Int)) × Int × Bool) :=
((((cond (decide (0 < (x2 : Int))) (
grd (decide (0 ≤ (0 : Int) ∧ (0 : Int) < (x2 : Int))) <|
(x3[(x1 + 0)]?).bind fun a5 =>
some (a5.1 == 94)) (
some false) : Option Bool)).bind fun y6 => 
cond y6 (
some (1, ByteArray.empty, true)) (
some (0, ByteArray.empty, false)) : Option (Int × ByteArray × Bool))).bind fun y7 => 
(loopN (L25_16 k x1 x2 x3) k (y7.1, ByteArray.empty, y7.2.1, y7.2.2, ([] : List (Int × Int)))).bind fun y109 => 
sel (fun y110 =>
some (3, 0, y110.1, y110.2.1, y110.2.2.2.2, 0, false)) (fun y111 =>
cond (decide (y111.1 < (x2 : Int))) (
some (3, 0, y111.2.2.1, y111.2.2.2.1, y111.2.2.2.2, (IntKind.wrap .i64 (y111.1 + 1)), (decide (0 < (y111.2.2.2.2.length : Int))))) (
some (3, 0, y111.2.2.1, y111.2.2.2.1, y111.2.2.2.2, (IntKind.wrap .i64 (y111.1 + 1)), false))) y109
def A25 : CTpl := ⟨[.sw 1000000], [(1000000, .ar 44 (.int .i32 (.str .nil)))]⟩
def h25 : List HTy := [.tn, .tn, .tl (.int .i32 (.str .nil))]
def R25 : List RTpl := [⟨.tp [.ag [.i .i64, .i .i32, .s, .b, .fz .u (.int .i32 (.int .i32 .nil))], .i .i64, .b], [], [.ti, .ti, .ts, .tb, .tl (.int .i32 (.int .i32 .nil)), .ti, .tb]⟩]
def n25 : An := .sq (.nd) (.sq (.nd) (.sq (.nd) (.jn [0, 2, 5] [2] [(0, ⟨[(6, .i .i64)], [(5, .bx 41 [.li .i64 3, .li .i32 0, .s, .b, .c (.slice none 0 0)])]⟩)] [[.ti, .ts, .tb]] (.jn [6] [5] [(0, ⟨[(23, .b)], []⟩)] [[.tb]] (.nd) (.nd)) (.sq (.lp [0, 2, 5] [] ⟨[(6, .i .i64)], [(2, .bx 41 [.li .i64 0, .li .i32 0, .s, .lb false, .c (.slice none 0 0)]), (5, .bx 41 [.li .i64 3, .li .i32 0, .s, .b, .sl .n 300800]), (300800, .ar 61 (.int .i32 (.int .i32 .nil)))]⟩ [.ti, .ts, .ts, .tb, .tl (.int .i32 (.int .i32 .nil))] [(1, ⟨[(3, .li .i64 0), (4, .lb false)], [(2, .bx 41 [.li .i64 3, .li .i32 0, .s, .b, .sl .n 300825]), (5, .bx 41 [.li .i64 3, .li .i32 0, .s, .b, .sl .n 300825]), (300825, .ar 61 (.int .i32 (.int .i32 .nil)))]⟩), (2, ⟨[(6, .i .i64)], [(2, .bx 41 [.li .i64 0, .li .i32 0, .s, .lb false, .c (.slice none 0 0)]), (5, .bx 41 [.li .i64 3, .li .i32 0, .s, .b, .sl .n 300835]), (300835, .ar 61 (.int .i32 (.int .i32 .nil)))]⟩)] [[.ts, .tb, .ts, .tb, .tl (.int .i32 (.int .i32 .nil))], [.ti, .ts, .ts, .tb, .tl (.int .i32 (.int .i32 .nil))]] (.sq (.jn [6] [2, 5, 300800] [(0, ⟨[(38, .b)], []⟩)] [[.tb]] (.nd) (.nd)) (.sq (.nd) (.sq (.nd) (.sq (.nd) (.sq (.nd) (.jn [7] [5, 300800] [(0, ⟨[(6, .i .i64), (10, .i .i32)], [(2, .bx 41 [.li .i64 0, .li .i32 0, .s, .lb false, .c (.slice none 0 0)])]⟩), (1, ⟨[(3, .li .i64 0), (4, .lb false)], [(2, .bx 41 [.li .i64 3, .li .i32 0, .s, .b, .sl .n 300800])]⟩)] [[.ti, .ti, .ts], [.ts, .tb]] (.jn [6, 10] [2] [(0, ⟨[(65, .b)], []⟩)] [[.tb]] (.nd) (.sq (.sq (.nd) (.sq (.jn [6, 8, 10] [2] [(0, ⟨[(81, .b)], []⟩)] [[.tb]] (.nd) (.nd)) (.nd))) (.nd))) (.nd)))))))) (.sq (.mk [] [0, 0, 2, 0, 0, 16, 56, 120, 248, 504, 1016, 2040, 4088, 249, 8447, 32767]) (.nd))))))
theorem e25 (k : Nat) (y : Tup h25) : exec (P := Tryd.prog) D (lk rowsL) [C29 k] k (bodyOf Tryd.f25) n25 (fnE Tryd.f25 A25 [1000000] (inOf A25 (ofTup h25 y))) (fnSt [1000000] (inOf A25 (ofTup h25 y))) (leafR D (fnE Tryd.f25 A25 [1000000] (inOf A25 (ofTup h25 y))) Tryd.f25.results.toList (R25.map (·.h)) R25) = F25 k y.1 y.2.1 y.2.2 := by kernel_rfl
noncomputable def C25 (k : Nat) : Con Tryd.prog := ⟨25, Tryd.f25, Tryd.func25, by kernel_rfl, by kernel_rfl, A25, h25, [1000000], R25, fun y => F25 k y.1 y.2.1 y.2.2, fun y r h => con_ok good mixed (c := bodyOf Tryd.f25) Tryd.func25 (by kernel_rfl) n25 y ((e25 k y).trans h)⟩
noncomputable def L16_18 (k : Nat) (y2 : (List (Int × ByteArray))) (z73 : (Int × (List (Int × Int × ByteArray × Bool × (List (Int × Int)))))) : Option ((Int × (List (Int × Int × ByteArray × Bool × (List (Int × Int))))) ⊕ (Unit ⊕ (List (Int × Int × ByteArray × Bool × (List (Int × Int)))))) :=
cond (decide (z73.1 < (y2.length : Int))) (
(((ix y2 z73.1).bind fun a74 =>
(y2[z73.1.toNat]?).bind fun a75 =>
cond (a75.1 == 42) (
grd (decide ((z73.2.length + [(2, 0, ByteArray.empty, false, ([] : List (Int × Int)))].length) * 64 ≤ 140737488355328)) <|
some (.inl (z73.1, (z73.2 ++ [(2, 0, ByteArray.empty, false, ([] : List (Int × Int)))])))) (
cond (a75.1 == 63) (
grd (decide ((z73.2.length + [(1, 0, ByteArray.empty, false, ([] : List (Int × Int)))].length) * 64 ≤ 140737488355328)) <|
some (.inl (z73.1, (z73.2 ++ [(1, 0, ByteArray.empty, false, ([] : List (Int × Int)))])))) (
cond (a75.1 == 91) (
grd (bnds (y2.length : Int) (IntKind.wrap .i64 (z73.1 + 1)) (y2.length : Int)) <|
(F25 k ((IntKind.wrap .i64 (z73.1 + 1)).toNat) (((y2.length : Int).toNat) - ((IntKind.wrap .i64 (z73.1 + 1)).toNat)) y2).bind fun y76 => 
cond (!y76.2.2.2.2.2.2) (
some (.inr ())) (
grd (decide ((z73.2.length + [(y76.1, y76.2.1, y76.2.2.1, y76.2.2.2.1, y76.2.2.2.2.1)].length) * 64 ≤ 140737488355328)) <|
some (.inl ((IntKind.wrap .i64 (z73.1 + y76.2.2.2.2.2.1)), (z73.2 ++ [(y76.1, y76.2.1, y76.2.2.1, y76.2.2.2.1, y76.2.2.2.2.1)]))))) (
cond (a75.1 == 92) (
cond ((IntKind.wrap .i64 (z73.1 + 1)) == (y2.length : Int)) (
some (.inr ())) (
(ix y2 (IntKind.wrap .i64 (z73.1 + 1))).bind fun a77 =>
(y2[(IntKind.wrap .i64 (z73.1 + 1)).toNat]?).bind fun a78 =>
(ix y2 (IntKind.wrap .i64 (z73.1 + 1))).bind fun a79 =>
(y2[(IntKind.wrap .i64 (z73.1 + 1)).toNat]?).bind fun a80 =>
grd (decide ((z73.2.length + [(0, a78.1, a80.2, false, ([] : List (Int × Int)))].length) * 64 ≤ 140737488355328)) <|
some (.inl ((IntKind.wrap .i64 (z73.1 + 1)), (z73.2 ++ [(0, a78.1, a80.2, false, ([] : List (Int × Int)))]))))) (
(ix y2 z73.1).bind fun a81 =>
(y2[z73.1.toNat]?).bind fun a82 =>
(ix y2 z73.1).bind fun a83 =>
(y2[z73.1.toNat]?).bind fun a84 =>
grd (decide ((z73.2.length + [(0, a82.1, a84.2, false, ([] : List (Int × Int)))].length) * 64 ≤ 140737488355328)) <|
some (.inl (z73.1, (z73.2 ++ [(0, a82.1, a84.2, false, ([] : List (Int × Int)))]))))))) : Option ((Int × (List (Int × Int × ByteArray × Bool × (List (Int × Int))))) ⊕ Unit))).bind fun y85 => 
sel (fun y86 =>
some (.inl ((IntKind.wrap .i64 (y86.1 + 1)), y86.2))) (fun y87 =>
some (.inr (.inl ()))) y85) (
some (.inr (.inr z73.2)))
noncomputable def F16 (k : Nat) (x1 : ByteArray) : Option (Bool ⊕ (Bool × (List (Int × Int × ByteArray × Bool × (List (Int × Int)))))) :=
(F17 k x1).bind fun y2 => 
cond (decide (24 < (y2.length : Int))) (
some (.inl false)) (
(loopN (L16_18 k y2) k (0, ([] : List (Int × Int × ByteArray × Bool × (List (Int × Int)))))).bind fun y88 => 
sel (fun y89 =>
some (.inl false)) (fun y90 =>
some (.inr (true, y90))) y88)
def A16 : CTpl := ⟨[.s], []⟩
def h16 : List HTy := [.ts]
def R16 : List RTpl := [⟨.tp [.c (.slice none 0 0), .b], [], [.tb]⟩, ⟨.tp [.sl .u 500000, .b], [(500000, .ar 41 (.int .i64 (.int .i32 (.str (.bool (.sl (.int .i32 (.int .i32 .nil)) .nil))))))], [.tb, .tl (.int .i64 (.int .i32 (.str (.bool (.sl (.int .i32 (.int .i32 .nil)) .nil)))))]⟩]
def n16 : An := .sq (.nd) (.sq (.nd) (.sq (.nd) (.sq (.nd) (.sq (.sq (.nd) (.lp [4] [401100] ⟨[(5, .sl .n 300900), (6, .i .i64)], [(300900, .ar 41 (.int .i64 (.int .i32 (.str (.bool (.sl (.int .i32 (.int .i32 .nil)) .nil))))))]⟩ [.ti, .tl (.int .i64 (.int .i32 (.str (.bool (.sl (.int .i32 (.int .i32 .nil)) .nil)))))] [(1, ⟨[(2, .c (.slice none 0 0)), (3, .lb false)], []⟩), (2, ⟨[(5, .sl .n 300935)], [(300935, .ar 41 (.int .i64 (.int .i32 (.str (.bool (.sl (.int .i32 (.int .i32 .nil)) .nil))))))]⟩)] [[], [.tl (.int .i64 (.int .i32 (.str (.bool (.sl (.int .i32 (.int .i32 .nil)) .nil)))))]] (.sq (.nd) (.jn [] [] [(0, ⟨[(5, .sl .n 301250), (6, .i .i64)], [(301250, .ar 41 (.int .i64 (.int .i32 (.str (.bool (.sl (.int .i32 (.int .i32 .nil)) .nil))))))]⟩), (1, ⟨[(2, .c (.slice none 0 0)), (3, .lb false)], []⟩)] [[.ti, .tl (.int .i64 (.int .i32 (.str (.bool (.sl (.int .i32 (.int .i32 .nil)) .nil)))))], []] (.sq (.nd) (.sq (.nd) (.sq (.nd) (.sq (.nd) (.sq (.nd) (.sq (.nd) (.sq (.nd) (.sq (.nd) (.sq (.sq (.nd) (.sq (.nd) (.mk [] [0, 0, 0, 6, 14, 30, 0, 0, 192, 448, 960, 2046, 4094, 8191, 16383]))) (.mk [] [0, 0, 0, 6, 14, 30, 0, 0, 192, 448, 960, 2046, 4094, 8191, 16383])))))))))) (.nd))))) (.nd)))))
theorem e16 (k : Nat) (hm : Mo.m = false) (y : Tup h16) : exec (P := Tryd.prog) D (lk rowsL) [C17 k hm, C25 k] k (bodyOf Tryd.f16) n16 (fnE Tryd.f16 A16 [] (inOf A16 (ofTup h16 y))) (fnSt [] (inOf A16 (ofTup h16 y))) (leafR D (fnE Tryd.f16 A16 [] (inOf A16 (ofTup h16 y))) Tryd.f16.results.toList (R16.map (·.h)) R16) = F16 k y := by kernel_rfl
noncomputable def C16 (k : Nat) (hm : Mo.m = false) : Con Tryd.prog := ⟨16, Tryd.f16, Tryd.func16, by kernel_rfl, by kernel_rfl, A16, h16, [], R16, fun y => F16 k y, fun y r h => con_ok good mixed (c := bodyOf Tryd.f16) Tryd.func16 (by kernel_rfl) n16 y ((e16 k hm y).trans h)⟩
noncomputable def L18_19 (k : Nat) (x4 : Bool) (x5 : (List (Int × Int))) (x6 : Int) (z21 : Int) : Option (Int ⊕ (Bool ⊕ Unit)) :=
cond (decide (z21 < (x5.length : Int))) (
(ix x5 z21).bind fun a22 =>
((cond (decide (a22.1 ≤ x6)) (
some (decide (x6 ≤ a22.2))) (
some false) : Option Bool)).bind fun y23 => 
cond y23 (
some (.inr (.inl (!x4)))) (
some (.inl (IntKind.wrap .i64 (z21 + 1))))) (
some (.inr (.inr ())))
noncomputable def F18 (k : Nat) (x1 : Int) (x2 : Int) (x3 : ByteArray) (x4 : Bool) (x5 : (List (Int × Int))) (x6 : Int) : Option Bool :=
cond (x1 == 1) (
some true) (
cond (x1 == 3) (
(loopN (L18_19 k x4 x5 x6) k 0).bind fun y24 => 
sel (fun y25 =>
some y25) (fun y26 =>
some x4) y24) (
some (x2 == x6)))
def A18 : CTpl := ⟨[.ag [.i .i64, .i .i32, .s, .b, .fz .u (.int .i32 (.int .i32 .nil))], .i .i32], []⟩
def h18 : List HTy := [.ti, .ti, .ts, .tb, .tl (.int .i32 (.int .i32 .nil)), .ti]
def R18 : List RTpl := [⟨.b, [], [.tb]⟩]
def n18 : An := .sq (.nd) (.sq (.sq (.nd) (.sq (.nd) (.sq (.nd) (.sq (.nd) (.sq (.sq (.sq (.nd) (.lp [1, 2, 14, 15] [2] ⟨[(16, .i .i64)], []⟩ [.ti] [(1, ⟨[(4, .b)], []⟩), (3, ⟨[], []⟩)] [[.tb], []] (.sq (.nd) (.sq (.nd) (.sq (.sq (.nd) (.jn [16] [] [(0, ⟨[(29, .b)], []⟩)] [[.tb]] (.nd) (.nd))) (.nd)))))) (.nd)) (.nd)))))) (.nd))
theorem e18 (k : Nat) (y : Tup h18) : exec (P := Tryd.prog) D (lk rowsL) [] k (bodyOf Tryd.f18) n18 (fnE Tryd.f18 A18 [] (inOf A18 (ofTup h18 y))) (fnSt [] (inOf A18 (ofTup h18 y))) (leafR D (fnE Tryd.f18 A18 [] (inOf A18 (ofTup h18 y))) Tryd.f18.results.toList (R18.map (·.h)) R18) = F18 k y.1 y.2.1 y.2.2.1 y.2.2.2.1 y.2.2.2.2.1 y.2.2.2.2.2 := by kernel_rfl
noncomputable def C18 (k : Nat) : Con Tryd.prog := ⟨18, Tryd.f18, Tryd.func18, by kernel_rfl, by kernel_rfl, A18, h18, [], R18, fun y => F18 k y.1 y.2.1 y.2.2.1 y.2.2.2.1 y.2.2.2.2.1 y.2.2.2.2.2, fun y r h => con_ok good mixed (c := bodyOf Tryd.f18) Tryd.func18 (by kernel_rfl) n18 y ((e18 k y).trans h)⟩
noncomputable def L9_20 (k : Nat) (y7 : (Bool × (List (Int × Int × ByteArray × Bool × (List (Int × Int)))))) (y9 : (List (Int × ByteArray))) (z81 : (Int × Int × Int × Int)) : Option ((Int × Int × Int × Int) ⊕ (Unit ⊕ Unit)) :=
((cond (decide (z81.2.2.2 < (y9.length : Int))) (
some true) (
some (decide (z81.1 < (y7.2.length : Int)))) : Option Bool)).bind fun y82 => 
cond y82 (
((cond (decide (z81.1 < (y7.2.length : Int))) (
(ix y7.2 z81.1).bind fun a83 =>
(y7.2[z81.1.toNat]?).bind fun a84 =>
some (a84.1 == 2)) (
some false) : Option Bool)).bind fun y85 => 
cond y85 (
some (.inl ((IntKind.wrap .i64 (z81.1 + 1)), (IntKind.wrap .i64 (z81.1 + 1)), z81.2.2.2, z81.2.2.2))) (
((cond (decide (z81.1 < (y7.2.length : Int))) (
cond (decide (z81.2.2.2 < (y9.length : Int))) (
(ix y7.2 z81.1).bind fun a86 =>
(y7.2[z81.1.toNat]?).bind fun a87 =>
(ix y9 z81.2.2.2).bind fun a88 =>
(y9[z81.2.2.2.toNat]?).bind fun a89 =>
(F18 k a87.1 a87.2.1 a87.2.2.1 a87.2.2.2.1 a87.2.2.2.2 a89.1).bind fun y90 => 
some y90) (
some false)) (
some false) : Option Bool)).bind fun y91 => 
cond y91 (
some (.inl ((IntKind.wrap .i64 (z81.1 + 1)), z81.2.1, z81.2.2.1, (IntKind.wrap .i64 (z81.2.2.2 + 1))))) (
((cond (decide (0 ≤ z81.2.1)) (
some (decide (z81.2.2.1 < (y9.length : Int)))) (
some false) : Option Bool)).bind fun y92 => 
cond y92 (
some (.inl (z81.2.1, z81.2.1, (IntKind.wrap .i64 (z81.2.2.1 + 1)), (IntKind.wrap .i64 (z81.2.2.1 + 1))))) (
some (.inr (.inl ())))))) (
some (.inr (.inr ())))
noncomputable def F9 (k : Nat) (x1 : ByteArray) (x2 : ByteArray) : Option Bool :=
(((F16 k x1).bind fun y4 => 
sel (fun y5 =>
some (y5, ([] : List (Int × Int × ByteArray × Bool × (List (Int × Int)))))) (fun y6 =>
some (y6.1, y6.2)) y4 : Option (Bool × (List (Int × Int × ByteArray × Bool × (List (Int × Int))))))).bind fun y7 => 
cond (!y7.1) (
some false) (
(F17 k x2).bind fun y9 => 
(loopN (L9_20 k y7 y9) k (0, (-1), 0, 0)).bind fun y93 => 
sel (fun y94 =>
some false) (fun y95 =>
some true) y93)
def A9 : CTpl := ⟨[.s, .s], []⟩
def h9 : List HTy := [.ts, .ts]
def R9 : List RTpl := [⟨.b, [], [.tb]⟩]
def n9 : An := .sq (.nd) (.jn [1] [] [(0, ⟨[(5, .sl .u 300100), (6, .b)], [(300100, .ar 41 (.int .i64 (.int .i32 (.str (.bool (.sl (.int .i32 (.int .i32 .nil)) .nil))))))]⟩)] [[.tb, .tl (.int .i64 (.int .i32 (.str (.bool (.sl (.int .i32 (.int .i32 .nil)) .nil)))))]] (.nd) (.sq (.nd) (.sq (.nd) (.sq (.nd) (.sq (.sq (.nd) (.lp [5, 7] [300100, 402000] ⟨[(8, .i .i64), (9, .i .i64), (10, .i .i64), (11, .i .i64)], []⟩ [.ti, .ti, .ti, .ti] [(1, ⟨[(4, .lb false)], []⟩), (2, ⟨[], []⟩)] [[], []] (.sq (.jn [8, 9, 10, 11] [] [(0, ⟨[(30, .b)], []⟩)] [[.tb]] (.nd) (.nd)) (.jn [8, 9, 10, 11] [] [(0, ⟨[(31, .b)], []⟩)] [[.tb]] (.nd) (.sq (.nd) (.jn [8, 9, 10, 11] [] [(0, ⟨[(48, .b)], []⟩)] [[.tb]] (.mk [] [0, 0, 2, 7, 15, 31, 31, 95, 255, 511, 1023, 2047, 2047, 8191, 16383, 2047, 2047, 100351, 231423, 493567, 1048575, 2097151, 4194303]) (.sq (.nd) (.jn [9, 10] [] [(0, ⟨[(75, .b)], []⟩)] [[.tb]] (.nd) (.nd))))))))) (.nd))))))
theorem e9 (k : Nat) (hm : Mo.m = false) (y : Tup h9) : exec (P := Tryd.prog) D (lk rowsL) [C16 k hm, C17 k hm, C18 k] k (bodyOf Tryd.f9) n9 (fnE Tryd.f9 A9 [] (inOf A9 (ofTup h9 y))) (fnSt [] (inOf A9 (ofTup h9 y))) (leafR D (fnE Tryd.f9 A9 [] (inOf A9 (ofTup h9 y))) Tryd.f9.results.toList (R9.map (·.h)) R9) = F9 k y.1 y.2 := by kernel_rfl
noncomputable def C9 (k : Nat) (hm : Mo.m = false) : Con Tryd.prog := ⟨9, Tryd.f9, Tryd.func9, by kernel_rfl, by kernel_rfl, A9, h9, [], R9, fun y => F9 k y.1 y.2, fun y r h => con_ok good mixed (c := bodyOf Tryd.f9) Tryd.func9 (by kernel_rfl) n9 y ((e9 k hm y).trans h)⟩
noncomputable def F8 (k : Nat) (x1 : ByteArray) : Option Bool :=
(((F16 k x1).bind fun y4 => 
sel (fun y5 =>
some y5) (fun y6 =>
some y6.1) y4 : Option Bool)).bind fun y7 => 
some y7
def A8 : CTpl := ⟨[.s], []⟩
def h8 : List HTy := [.ts]
def R8 : List RTpl := [⟨.b, [], [.tb]⟩]
def n8 : An := .sq (.nd) (.jn [] [] [(0, ⟨[(4, .b)], []⟩)] [[.tb]] (.nd) (.nd))
theorem e8 (k : Nat) (hm : Mo.m = false) (y : Tup h8) : exec (P := Tryd.prog) D (lk rowsL) [C16 k hm] k (bodyOf Tryd.f8) n8 (fnE Tryd.f8 A8 [] (inOf A8 (ofTup h8 y))) (fnSt [] (inOf A8 (ofTup h8 y))) (leafR D (fnE Tryd.f8 A8 [] (inOf A8 (ofTup h8 y))) Tryd.f8.results.toList (R8.map (·.h)) R8) = F8 k y := by kernel_rfl
noncomputable def C8 (k : Nat) (hm : Mo.m = false) : Con Tryd.prog := ⟨8, Tryd.f8, Tryd.func8, by kernel_rfl, by kernel_rfl, A8, h8, [], R8, fun y => F8 k y, fun y r h => con_ok good mixed (c := bodyOf Tryd.f8) Tryd.func8 (by kernel_rfl) n8 y ((e8 k hm y).trans h)⟩
noncomputable def F27 (k : Nat) (x1 : (List Int)) : Option Unit :=
some ()
def A27 : CTpl := ⟨[.pt 1000000 0], [(1000000, .bx 49 [.sp 1000000, .sl .u 1000001]), (1000001, .ar 5 (.int .u8 .nil))]⟩
def h27 : List HTy := [.tl (.int .u8 .nil)]
def R27 : List RTpl := [⟨.tp [], [], []⟩]
def n27 : An := .nd
noncomputable def C27 (k : Nat) : Con Tryd.prog := ⟨27, Tryd.f27, Tryd.func27, by kernel_rfl, by kernel_rfl, A27, h27, [1000000, 1000001], R27, fun y => F27 k y, fun y r h => by
  have h2 : some () = some r := h
  cases h2
  exact CTx.copyCheck Tryd.bld_fresh Tryd.bld_used _ _⟩
noncomputable def F20 (k : Nat) (x1 : Int) (x2 : (List Int)) : Option (List Int) :=
(F27 k x2).bind fun y2 => 
grd (decide ((x2.length + [x1].length) * 1 ≤ 140737488355328)) <|
some (x2 ++ [x1])
def A20 : CTpl := ⟨[.pt 1000000 0, .i .u8], [(1000000, .bx 49 [.sp 1000000, .sl .u 1000001]), (1000001, .ar 5 (.int .u8 .nil))]⟩
def h20 : List HTy := [.ti, .tl (.int .u8 .nil)]
def R20 : List RTpl := [⟨.c (.nilIface), [(1000000, .bx 49 [.sp 1000000, .sl .u 500000]), (1000001, .gone), (500000, .ar 5 (.int .u8 .nil))], [.tl (.int .u8 .nil)]⟩]
def n20 : An := .nd
theorem e20 (k : Nat) (y : Tup h20) : exec (P := Tryd.prog) D (lk rowsL) [C27 k] k (bodyOf Tryd.f20) n20 (fnE Tryd.f20 A20 [] (inOf A20 (ofTup h20 y))) (fnSt [] (inOf A20 (ofTup h20 y))) (leafR D (fnE Tryd.f20 A20 [] (inOf A20 (ofTup h20 y))) Tryd.f20.results.toList (R20.map (·.h)) R20) = F20 k y.1 y.2 := by kernel_rfl
noncomputable def C20 (k : Nat) : Con Tryd.prog := ⟨20, Tryd.f20, Tryd.func20, by kernel_rfl, by kernel_rfl, A20, h20, [], R20, fun y => F20 k y.1 y.2, fun y r h => con_ok good mixed (c := bodyOf Tryd.f20) Tryd.func20 (by kernel_rfl) n20 y ((e20 k y).trans h)⟩
noncomputable def F21 (k : Nat) (x1 : ByteArray) (x2 : (List Int)) : Option (Int × (List Int)) :=
(F27 k x2).bind fun y2 => 
grd (decide (x2.length + x1.size ≤ 140737488355328)) <|
some ((x1.size : Int), (x2 ++ (strNums x1)))
def A21 : CTpl := ⟨[.pt 1000000 0, .s], [(1000000, .bx 49 [.sp 1000000, .sl .u 1000001]), (1000001, .ar 5 (.int .u8 .nil))]⟩
def h21 : List HTy := [.ts, .tl (.int .u8 .nil)]
def R21 : List RTpl := [⟨.tp [.i .i64, .c (.nilIface)], [(1000000, .bx 49 [.sp 1000000, .sl .u 500000]), (1000001, .gone), (500000, .ar 5 (.int .u8 .nil))], [.ti, .tl (.int .u8 .nil)]⟩]
def n21 : An := .nd
theorem e21 (k : Nat) (y : Tup h21) : exec (P := Tryd.prog) D (lk rowsL) [C27 k] k (bodyOf Tryd.f21) n21 (fnE Tryd.f21 A21 [] (inOf A21 (ofTup h21 y))) (fnSt [] (inOf A21 (ofTup h21 y))) (leafR D (fnE Tryd.f21 A21 [] (inOf A21 (ofTup h21 y))) Tryd.f21.results.toList (R21.map (·.h)) R21) = F21 k y.1 y.2 := by kernel_rfl
noncomputable def C21 (k : Nat) : Con Tryd.prog := ⟨21, Tryd.f21, Tryd.func21, by kernel_rfl, by kernel_rfl, A21, h21, [], R21, fun y => F21 k y.1 y.2, fun y r h => con_ok good mixed (c := bodyOf Tryd.f21) Tryd.func21 (by kernel_rfl) n21 y ((e21 k y).trans h)⟩
noncomputable def F22 (k : Nat) (x1 : (List Int)) : Option ByteArray :=
grd (byteB x1) (some (strOfNums x1))
def A22 : CTpl := ⟨[.pt 1000000 0], [(1000000, .bx 49 [.sp 1000000, .sl .u 1000001]), (1000001, .ar 5 (.int .u8 .nil))]⟩
def h22 : List HTy := [.tl (.int .u8 .nil)]
def R22 : List RTpl := [⟨.s, [(1000000, .gone), (1000001, .gone)], [.ts]⟩]
def n22 : An := .nd
noncomputable def C22 (k : Nat) : Con Tryd.prog := ⟨22, Tryd.f22, Tryd.func22, by kernel_rfl, by kernel_rfl, A22, h22, [], R22, fun y => F22 k y, fun y r h => by
  have h2 : grd (byteB y) (some (strOfNums y)) = some r := h
  obtain ⟨hb, h3⟩ := grd_out h2
  cases h3
  exact CTx.builderStr (ρ := Tryd.lays169_ren) Tryd.lays169 Tryd.Builder_Extra_169 hb⟩
noncomputable def L12_8 (k : Nat) (y42 : (List (Int × ByteArray))) (z43 : (Int × (List Int))) : Option ((Int × (List Int)) ⊕ (List Int)) :=
cond (decide (z43.1 < (y42.length : Int))) (
(ix y42 z43.1).bind fun a44 =>
(y42[z43.1.toNat]?).bind fun a45 =>
((((cond (a45.1 == 42) (
some (a45.1 == 42)) (
cond (a45.1 == 63) (
some (a45.1 == 63)) (
cond (a45.1 == 91) (
some (a45.1 == 91)) (
cond (a45.1 == 93) (
some (a45.1 == 93)) (
cond (a45.1 == 92) (
some (a45.1 == 92)) (
cond (a45.1 == 94) (
some (a45.1 == 94)) (
some (a45.1 == 45))))))) : Option Bool)).bind fun y46 => 
cond y46 (
(F20 k 92 z43.2).bind fun y47 => 
some y47) (
some z43.2) : Option (List Int))).bind fun y48 => 
(F21 k a45.2 y48).bind fun y49 => 
some (.inl ((IntKind.wrap .i64 (z43.1 + 1)), y49.2))) (
some (.inr z43.2))
noncomputable def F12 (k : Nat) (x1 : ByteArray) : Option ByteArray :=
(F17 k x1).bind fun y42 => 
(loopN (L12_8 k y42) k (0, ([] : List Int))).bind fun y50 => 
(F22 k y50).bind fun y51 => 
some y51
def A12 : CTpl := ⟨[.s], []⟩
def h12 : List HTy := [.ts]
def R12 : List RTpl := [⟨.s, [], [.ts]⟩]
def n12 : An := .sq (.nd) (.sq (.nd) (.sq (.sq (.nd) (.lp [3, 7, 8] [400700] ⟨[(9, .i .i64)], [(3, .bx 49 [.sp 3, .sl .u 300400]), (300400, .ar 5 (.int .u8 .nil))]⟩ [.ti, .tl (.int .u8 .nil)] [(2, ⟨[], [(3, .bx 49 [.sp 3, .sl .u 300425]), (300425, .ar 5 (.int .u8 .nil))]⟩)] [[.tl (.int .u8 .nil)]] (.sq (.nd) (.sq (.nd) (.sq (.sq (.nd) (.jn [5, 9] [5] [(0, ⟨[], [(3, .bx 49 [.sp 3, .sl .u 300950]), (300950, .ar 5 (.int .u8 .nil))]⟩)] [[.tl (.int .u8 .nil)]] (.sq (.nd) (.jn [] [3, 300400] [(0, ⟨[(15, .b)], []⟩)] [[.tb]] (.nd) (.nd))) (.nd))) (.nd)))))) (.nd)))
theorem e12 (k : Nat) (hm : Mo.m = false) (y : Tup h12) : exec (P := Tryd.prog) D (lk rowsL) [C17 k hm, C20 k, C21 k, C22 k] k (bodyOf Tryd.f12) n12 (fnE Tryd.f12 A12 [] (inOf A12 (ofTup h12 y))) (fnSt [] (inOf A12 (ofTup h12 y))) (leafR D (fnE Tryd.f12 A12 [] (inOf A12 (ofTup h12 y))) Tryd.f12.results.toList (R12.map (·.h)) R12) = F12 k y := by kernel_rfl
noncomputable def C12 (k : Nat) (hm : Mo.m = false) : Con Tryd.prog := ⟨12, Tryd.f12, Tryd.func12, by kernel_rfl, by kernel_rfl, A12, h12, [], R12, fun y => F12 k y, fun y r h => con_ok good mixed (c := bodyOf Tryd.f12) Tryd.func12 (by kernel_rfl) n12 y ((e12 k hm y).trans h)⟩
noncomputable def F7 (k : Nat) : Option Bool :=
(F9 k (⟨#[97, 42, 91, 120, 45, 122, 93]⟩ : ByteArray) (⟨#[97, 98, 99, 121]⟩ : ByteArray)).bind fun y1 => 
cond y1 (
(F9 k (⟨#[63]⟩ : ByteArray) (⟨#[195, 169]⟩ : ByteArray)).bind fun y2 => 
cond y2 (
(F9 k (⟨#[91, 94, 97, 93]⟩ : ByteArray) (⟨#[97]⟩ : ByteArray)).bind fun y3 => 
cond (!y3) (
(F8 k (⟨#[91]⟩ : ByteArray)).bind fun y4 => 
cond (!y4) (
(F12 k (⟨#[97, 42]⟩ : ByteArray)).bind fun y5 => 
some (y5.toList == (⟨#[97, 92, 42]⟩ : ByteArray).toList)) (
some false)) (
some false)) (
some false)) (
some false)
def A7 : CTpl := ⟨[], []⟩
def h7 : List HTy := []
def R7 : List RTpl := [⟨.b, [], [.tb]⟩]
def n7 : An := .nd
theorem e7 (k : Nat) (hm : Mo.m = false) (y : Tup h7) : exec (P := Tryd.prog) D (lk rowsL) [C9 k hm, C8 k hm, C12 k hm] k (bodyOf Tryd.f7) n7 (fnE Tryd.f7 A7 [] (inOf A7 (ofTup h7 y))) (fnSt [] (inOf A7 (ofTup h7 y))) (leafR D (fnE Tryd.f7 A7 [] (inOf A7 (ofTup h7 y))) Tryd.f7.results.toList (R7.map (·.h)) R7) = F7 k := by kernel_rfl
noncomputable def C7 (k : Nat) (hm : Mo.m = false) : Con Tryd.prog := ⟨7, Tryd.f7, Tryd.func7, by kernel_rfl, by kernel_rfl, A7, h7, [], R7, fun y => F7 k, fun y r h => con_ok good mixed (c := bodyOf Tryd.f7) Tryd.func7 (by kernel_rfl) n7 y ((e7 k hm y).trans h)⟩
noncomputable def F3 (k : Nat) (x1 : Int) (x2 : Int) (x3 : Int) : Option Bool :=
grd (decide ((⟨#[91]⟩ : ByteArray).size + (strOfNums [(IntKind.wrap .u8 (97 + (x1.tmod 26))), 45, (IntKind.wrap .u8 (97 + (x2.tmod 26)))]).size ≤ 9223372036854775807)) <|
grd (decide (((⟨#[91]⟩ : ByteArray) ++ (strOfNums [(IntKind.wrap .u8 (97 + (x1.tmod 26))), 45, (IntKind.wrap .u8 (97 + (x2.tmod 26)))])).size + (⟨#[93]⟩ : ByteArray).size ≤ 9223372036854775807)) <|
grd (decide ((⟨#[91, 94]⟩ : ByteArray).size + (strOfNums [(IntKind.wrap .u8 (97 + (x1.tmod 26))), 45, (IntKind.wrap .u8 (97 + (x2.tmod 26)))]).size ≤ 9223372036854775807)) <|
grd (decide (((⟨#[91, 94]⟩ : ByteArray) ++ (strOfNums [(IntKind.wrap .u8 (97 + (x1.tmod 26))), 45, (IntKind.wrap .u8 (97 + (x2.tmod 26)))])).size + (⟨#[93]⟩ : ByteArray).size ≤ 9223372036854775807)) <|
cond (decide ((IntKind.wrap .u8 (97 + (x2.tmod 26))) < (IntKind.wrap .u8 (97 + (x1.tmod 26))))) (
(F7 k).bind fun y5 => 
cond y5 (
(F8 k (((⟨#[91]⟩ : ByteArray) ++ (strOfNums [(IntKind.wrap .u8 (97 + (x1.tmod 26))), 45, (IntKind.wrap .u8 (97 + (x2.tmod 26)))])) ++ (⟨#[93]⟩ : ByteArray))).bind fun y6 => 
cond (!y6) (
(F9 k (((⟨#[91]⟩ : ByteArray) ++ (strOfNums [(IntKind.wrap .u8 (97 + (x1.tmod 26))), 45, (IntKind.wrap .u8 (97 + (x2.tmod 26)))])) ++ (⟨#[93]⟩ : ByteArray)) (strOfNums [(IntKind.wrap .u8 (97 + (x3.tmod 26)))])).bind fun y7 => 
cond (!y7) (
(F9 k (((⟨#[91, 94]⟩ : ByteArray) ++ (strOfNums [(IntKind.wrap .u8 (97 + (x1.tmod 26))), 45, (IntKind.wrap .u8 (97 + (x2.tmod 26)))])) ++ (⟨#[93]⟩ : ByteArray)) (strOfNums [(IntKind.wrap .u8 (97 + (x3.tmod 26)))])).bind fun y8 => 
some (!y8)) (
some false)) (
some false)) (
some false)) (
((cond (decide ((IntKind.wrap .u8 (97 + (x1.tmod 26))) ≤ (IntKind.wrap .u8 (97 + (x3.tmod 26))))) (
some (decide ((IntKind.wrap .u8 (97 + (x3.tmod 26))) ≤ (IntKind.wrap .u8 (97 + (x2.tmod 26)))))) (
some false) : Option Bool)).bind fun y9 => 
(F7 k).bind fun y10 => 
cond y10 (
(F9 k (((⟨#[91]⟩ : ByteArray) ++ (strOfNums [(IntKind.wrap .u8 (97 + (x1.tmod 26))), 45, (IntKind.wrap .u8 (97 + (x2.tmod 26)))])) ++ (⟨#[93]⟩ : ByteArray)) (strOfNums [(IntKind.wrap .u8 (97 + (x3.tmod 26)))])).bind fun y11 => 
cond (y11 == y9) (
(F9 k (((⟨#[91, 94]⟩ : ByteArray) ++ (strOfNums [(IntKind.wrap .u8 (97 + (x1.tmod 26))), 45, (IntKind.wrap .u8 (97 + (x2.tmod 26)))])) ++ (⟨#[93]⟩ : ByteArray)) (strOfNums [(IntKind.wrap .u8 (97 + (x3.tmod 26)))])).bind fun y12 => 
some (y12 == (!y9))) (
some false)) (
some false))
def A3 : CTpl := ⟨[.i .u8, .i .u8, .i .u8], []⟩
def h3 : List HTy := [.ti, .ti, .ti]
def R3 : List RTpl := [⟨.b, [], [.tb]⟩]
def n3 : An := .sq (.nd) (.sq (.nd) (.sq (.nd) (.sq (.nd) (.sq (.nd) (.sq (.nd) (.jn [7, 8, 9] [] [(0, ⟨[(10, .b)], []⟩)] [[.tb]] (.nd) (.nd)))))))
theorem e3 (k : Nat) (hm : Mo.m = false) (y : Tup h3) : exec (P := Tryd.prog) D (lk rowsL) [C7 k hm, C8 k hm, C9 k hm] k (bodyOf Tryd.f3) n3 (fnE Tryd.f3 A3 [] (inOf A3 (ofTup h3 y))) (fnSt [] (inOf A3 (ofTup h3 y))) (leafR D (fnE Tryd.f3 A3 [] (inOf A3 (ofTup h3 y))) Tryd.f3.results.toList (R3.map (·.h)) R3) = F3 k y.1 y.2.1 y.2.2 := by kernel_rfl
noncomputable def C3 (k : Nat) (hm : Mo.m = false) : Con Tryd.prog := ⟨3, Tryd.f3, Tryd.func3, by kernel_rfl, by kernel_rfl, A3, h3, [], R3, fun y => F3 k y.1 y.2.1 y.2.2, fun y r h => con_ok good mixed (c := bodyOf Tryd.f3) Tryd.func3 (by kernel_rfl) n3 y ((e3 k hm y).trans h)⟩
noncomputable def L10_8 (k : Nat) (z3 : (Int × ByteArray × Nat)) : Option ((Int × ByteArray × Nat) ⊕ (Int × ByteArray × Nat)) :=
cond (decide (z3.2.2 < z3.2.1.size)) (
some (.inl ((IntKind.wrap .i64 (z3.1 + 1)), z3.2.1, (z3.2.2 + (Utf8.decode z3.2.1 z3.2.2).2)))) (
some (.inr (z3.1, z3.2.1, z3.2.2)))
noncomputable def F10 (k : Nat) (x1 : ByteArray) : Option Int :=
(loopN (L10_8 k) k (0, x1, 0)).bind fun y4 => 
some y4.1
def A10 : CTpl := ⟨[.s], []⟩
def h10 : List HTy := [.ts]
def R10 : List RTpl := [⟨.i .i64, [], [.ti]⟩]
def n10 : An := .sq (.nd) (.sq (.nd) (.sq (.sq (.nd) (.lp [5] [] ⟨[(3, .i .i64)], [(5, .si)]⟩ [.ti, .ts, .tn] [(2, ⟨[(3, .i .i64)], [(5, .si)]⟩)] [[.ti, .ts, .tn]] (.nd))) (.nd)))
theorem e10 (k : Nat) (y : Tup h10) : exec (P := Tryd.prog) D (lk rowsL) [] k (bodyOf Tryd.f10) n10 (fnE Tryd.f10 A10 [] (inOf A10 (ofTup h10 y))) (fnSt [] (inOf A10 (ofTup h10 y))) (leafR D (fnE Tryd.f10 A10 [] (inOf A10 (ofTup h10 y))) Tryd.f10.results.toList (R10.map (·.h)) R10) = F10 k y := by kernel_rfl
noncomputable def C10 (k : Nat) : Con Tryd.prog := ⟨10, Tryd.f10, Tryd.func10, by kernel_rfl, by kernel_rfl, A10, h10, [], R10, fun y => F10 k y, fun y r h => con_ok good mixed (c := bodyOf Tryd.f10) Tryd.func10 (by kernel_rfl) n10 y ((e10 k y).trans h)⟩
noncomputable def L4_16 (k : Nat) (x2 : Int) (z10 : (ByteArray × Int)) : Option ((ByteArray × Int) ⊕ ByteArray) :=
cond (decide (z10.2 < x2)) (
grd (decide (z10.1.size + (⟨#[63]⟩ : ByteArray).size ≤ 9223372036854775807)) <|
some (.inl ((z10.1 ++ (⟨#[63]⟩ : ByteArray)), (IntKind.wrap .i64 (z10.2 + 1))))) (
some (.inr z10.1))
noncomputable def F4 (k : Nat) (x1 : ByteArray) (x2 : Int) : Option Bool :=
(((F7 k).bind fun y5 => 
cond (!y5) (
some true) (
cond (decide (x2 < 0)) (
some true) (
cond (decide (24 ≤ x2)) (
some true) (
some (decide (60 < (x1.size : Int)))))) : Option Bool)).bind fun y6 => 
cond y6 (
(F7 k).bind fun y7 => 
some y7) (
(loopN (L4_16 k x2) k ((⟨#[]⟩ : ByteArray), 0)).bind fun y11 => 
(F10 k x1).bind fun y13 => 
(F8 k y11).bind fun y14 => 
cond y14 (
(F9 k y11 x1).bind fun y15 => 
cond (y15 == (y13 == x2)) (
grd (decide ((⟨#[42]⟩ : ByteArray).size + y11.size ≤ 9223372036854775807)) <|
(F9 k ((⟨#[42]⟩ : ByteArray) ++ y11) x1).bind fun y16 => 
cond (y16 == (decide (x2 ≤ y13))) (
grd (decide (y11.size + (⟨#[42]⟩ : ByteArray).size ≤ 9223372036854775807)) <|
(F9 k (y11 ++ (⟨#[42]⟩ : ByteArray)) x1).bind fun y17 => 
some (y17 == (decide (x2 ≤ y13)))) (
some false)) (
some false)) (
some false))
def A4 : CTpl := ⟨[.s, .i .i64], []⟩
def h4 : List HTy := [.ts, .ti]
def R4 : List RTpl := [⟨.b, [], [.tb]⟩]
def n4 : An := .sq (.nd) (.sq (.jn [0, 1] [] [(0, ⟨[(22, .b)], []⟩)] [[.tb]] (.nd) (.nd)) (.sq (.nd) (.sq (.sq (.nd) (.lp [0, 1] [] ⟨[(5, .s), (6, .i .i64)], []⟩ [.ts, .ti] [(2, ⟨[(5, .s)], []⟩)] [[.ts]] (.nd))) (.nd))))
theorem e4 (k : Nat) (hm : Mo.m = false) (y : Tup h4) : exec (P := Tryd.prog) D (lk rowsL) [C7 k hm, C10 k, C8 k hm, C9 k hm] k (bodyOf Tryd.f4) n4 (fnE Tryd.f4 A4 [] (inOf A4 (ofTup h4 y))) (fnSt [] (inOf A4 (ofTup h4 y))) (leafR D (fnE Tryd.f4 A4 [] (inOf A4 (ofTup h4 y))) Tryd.f4.results.toList (R4.map (·.h)) R4) = F4 k y.1 y.2 := by kernel_rfl
noncomputable def C4 (k : Nat) (hm : Mo.m = false) : Con Tryd.prog := ⟨4, Tryd.f4, Tryd.func4, by kernel_rfl, by kernel_rfl, A4, h4, [], R4, fun y => F4 k y.1 y.2, fun y r h => con_ok good mixed (c := bodyOf Tryd.f4) Tryd.func4 (by kernel_rfl) n4 y ((e4 k hm y).trans h)⟩
noncomputable def L11_8 (k : Nat) (x1 : ByteArray) (z18 : (Int × ByteArray × Nat)) : Option ((Int × ByteArray × Nat) ⊕ ((ByteArray × Nat) ⊕ (Int × ByteArray × Nat))) :=
cond (decide (z18.2.2 < z18.2.1.size)) (
((cond (decide (12 < (IntKind.wrap .i64 (z18.1 + 1)))) (
some true) (
cond (decide (((Utf8.decode z18.2.1 z18.2.2).1 : Int) < 33)) (
some true) (
cond (decide (127 ≤ ((Utf8.decode z18.2.1 z18.2.2).1 : Int))) (
some (decide (((Utf8.decode z18.2.1 z18.2.2).1 : Int) ≤ 160))) (
some false))) : Option Bool)).bind fun y19 => 
cond y19 (
some (.inr (.inl (z18.2.1, (z18.2.2 + (Utf8.decode z18.2.1 z18.2.2).2))))) (
grd (bnds (x1.size : Int) (z18.2.2 : Int) (x1.size : Int)) <|
(F19 k (x1.extract ((z18.2.2 : Int).toNat) ((x1.size : Int).toNat))).bind fun y20 => 
((cond (((Utf8.decode z18.2.1 z18.2.2).1 : Int) == 65533) (
some (y20.2 == 1)) (
some false) : Option Bool)).bind fun y21 => 
cond y21 (
some (.inr (.inl (z18.2.1, (z18.2.2 + (Utf8.decode z18.2.1 z18.2.2).2))))) (
some (.inl ((IntKind.wrap .i64 (z18.1 + 1)), z18.2.1, (z18.2.2 + (Utf8.decode z18.2.1 z18.2.2).2)))))) (
some (.inr (.inr (z18.1, z18.2.1, z18.2.2))))
noncomputable def F11 (k : Nat) (x1 : ByteArray) : Option Bool :=
(loopN (L11_8 k x1) k (0, x1, 0)).bind fun y22 => 
sel (fun y23 =>
some false) (fun y24 =>
some (decide (0 < y24.1))) y22
def A11 : CTpl := ⟨[.s], []⟩
def h11 : List HTy := [.ts]
def R11 : List RTpl := [⟨.b, [], [.tb]⟩]
def n11 : An := .sq (.nd) (.sq (.nd) (.sq (.sq (.nd) (.lp [0, 9] [] ⟨[(3, .i .i64)], [(9, .si)]⟩ [.ti, .ts, .tn] [(1, ⟨[(2, .lb false)], [(9, .si)]⟩), (2, ⟨[(3, .i .i64)], [(9, .si)]⟩)] [[.ts, .tn], [.ti, .ts, .tn]] (.sq (.nd) (.sq (.nd) (.sq (.nd) (.sq (.nd) (.sq (.jn [3, 4, 5] [9] [(0, ⟨[(29, .b)], []⟩)] [[.tb]] (.nd) (.nd)) (.sq (.nd) (.jn [3] [9] [(0, ⟨[(42, .b)], []⟩)] [[.tb]] (.nd) (.nd)))))))))) (.nd)))
theorem e11 (k : Nat) (hm : Mo.m = false) (y : Tup h11) : exec (P := Tryd.prog) D (lk rowsL) [C19 k hm] k (bodyOf Tryd.f11) n11 (fnE Tryd.f11 A11 [] (inOf A11 (ofTup h11 y))) (fnSt [] (inOf A11 (ofTup h11 y))) (leafR D (fnE Tryd.f11 A11 [] (inOf A11 (ofTup h11 y))) Tryd.f11.results.toList (R11.map (·.h)) R11) = F11 k y := by kernel_rfl
noncomputable def C11 (k : Nat) (hm : Mo.m = false) : Con Tryd.prog := ⟨11, Tryd.f11, Tryd.func11, by kernel_rfl, by kernel_rfl, A11, h11, [], R11, fun y => F11 k y, fun y r h => con_ok good mixed (c := bodyOf Tryd.f11) Tryd.func11 (by kernel_rfl) n11 y ((e11 k hm y).trans h)⟩
noncomputable def F5 (k : Nat) (x1 : ByteArray) (x2 : ByteArray) (x3 : ByteArray) : Option Bool :=
(((F7 k).bind fun y11 => 
cond (!y11) (
some true) (
(F11 k x1).bind fun y12 => 
cond (!y12) (
some true) (
(F11 k x2).bind fun y13 => 
cond (!y13) (
some true) (
(F11 k x3).bind fun y14 => 
some (!y14)))) : Option Bool)).bind fun y15 => 
cond y15 (
(F7 k).bind fun y16 => 
some y16) (
(F12 k x1).bind fun y19 => 
grd (decide (y19.size + (⟨#[42]⟩ : ByteArray).size ≤ 9223372036854775807)) <|
(F12 k x2).bind fun y20 => 
grd (decide ((y19 ++ (⟨#[42]⟩ : ByteArray)).size + y20.size ≤ 9223372036854775807)) <|
(F8 k ((y19 ++ (⟨#[42]⟩ : ByteArray)) ++ y20)).bind fun y24 => 
cond (!y24) (
(F10 k ((y19 ++ (⟨#[42]⟩ : ByteArray)) ++ y20)).bind fun y25 => 
some (decide (24 < y25))) (
((cond (decide ((IntKind.wrap .i64 ((x1.size : Int) + (x2.size : Int))) ≤ (x3.size : Int))) (
grd (bnds (x3.size : Int) 0 (x1.size : Int)) <|
cond ((x3.extract 0 ((x1.size : Int).toNat)).toList == x1.toList) (
grd (bnds (x3.size : Int) (IntKind.wrap .i64 ((x3.size : Int) - (x2.size : Int))) (x3.size : Int)) <|
some ((x3.extract ((IntKind.wrap .i64 ((x3.size : Int) - (x2.size : Int))).toNat) ((x3.size : Int).toNat)).toList == x2.toList)) (
some false)) (
some false) : Option Bool)).bind fun y26 => 
(F9 k ((y19 ++ (⟨#[42]⟩ : ByteArray)) ++ y20) x3).bind fun y27 => 
cond (y27 == y26) (
(F9 k (⟨#[42]⟩ : ByteArray) x3).bind fun y28 => 
cond y28 (
grd (decide (x1.size + x3.size ≤ 9223372036854775807)) <|
grd (decide ((x1 ++ x3).size + x2.size ≤ 9223372036854775807)) <|
(F9 k ((y19 ++ (⟨#[42]⟩ : ByteArray)) ++ y20) ((x1 ++ x3) ++ x2)).bind fun y29 => 
some y29) (
some false)) (
some false)))
def A5 : CTpl := ⟨[.s, .s, .s], []⟩
def h5 : List HTy := [.ts, .ts, .ts]
def R5 : List RTpl := [⟨.b, [], [.tb]⟩]
def n5 : An := .sq (.nd) (.sq (.jn [0, 1, 2] [] [(0, ⟨[(25, .b)], []⟩)] [[.tb]] (.nd) (.nd)) (.sq (.nd) (.sq (.nd) (.jn [0, 1, 2, 7] [] [(0, ⟨[(8, .b)], []⟩)] [[.tb]] (.nd) (.nd)))))
theorem e5 (k : Nat) (hm : Mo.m = false) (y : Tup h5) : exec (P := Tryd.prog) D (lk rowsL) [C7 k hm, C11 k hm, C12 k hm, C8 k hm, C10 k, C9 k hm] k (bodyOf Tryd.f5) n5 (fnE Tryd.f5 A5 [] (inOf A5 (ofTup h5 y))) (fnSt [] (inOf A5 (ofTup h5 y))) (leafR D (fnE Tryd.f5 A5 [] (inOf A5 (ofTup h5 y))) Tryd.f5.results.toList (R5.map (·.h)) R5) = F5 k y.1 y.2.1 y.2.2 := by kernel_rfl
noncomputable def C5 (k : Nat) (hm : Mo.m = false) : Con Tryd.prog := ⟨5, Tryd.f5, Tryd.func5, by kernel_rfl, by kernel_rfl, A5, h5, [], R5, fun y => F5 k y.1 y.2.1 y.2.2, fun y r h => con_ok good mixed (c := bodyOf Tryd.f5) Tryd.func5 (by kernel_rfl) n5 y ((e5 k hm y).trans h)⟩
noncomputable def L13_8 (k : Nat) (x1 : ByteArray) (z15 : (Int × (List Int))) : Option ((Int × (List Int)) ⊕ (List Int)) :=
cond (decide (z15.1 < (x1.size : Int))) (
((grd (decide (0 ≤ z15.1 ∧ z15.1 < (x1.size : Int))) <|
((cond ((bt x1 z15.1) == 42) (
some ((bt x1 z15.1) == 42)) (
cond ((bt x1 z15.1) == 63) (
some ((bt x1 z15.1) == 63)) (
cond ((bt x1 z15.1) == 91) (
some ((bt x1 z15.1) == 91)) (
cond ((bt x1 z15.1) == 93) (
some ((bt x1 z15.1) == 93)) (
cond ((bt x1 z15.1) == 92) (
some ((bt x1 z15.1) == 92)) (
cond ((bt x1 z15.1) == 94) (
some ((bt x1 z15.1) == 94)) (
some ((bt x1 z15.1) == 45))))))) : Option Bool)).bind fun y16 => 
cond y16 (
grd (decide ((z15.2.length + [92].length) * 1 ≤ 140737488355328)) <|
some (z15.2 ++ [92])) (
some z15.2) : Option (List Int))).bind fun y17 => 
grd (decide (0 ≤ z15.1 ∧ z15.1 < (x1.size : Int))) <|
grd (decide ((y17.length + [(bt x1 z15.1)].length) * 1 ≤ 140737488355328)) <|
some (.inl ((IntKind.wrap .i64 (z15.1 + 1)), (y17 ++ [(bt x1 z15.1)])))) (
some (.inr z15.2))
noncomputable def F13 (k : Nat) (x1 : ByteArray) : Option ByteArray :=
(loopN (L13_8 k x1) k (0, ([] : List Int))).bind fun y18 => 
some (strOfNums y18)
def A13 : CTpl := ⟨[.s], []⟩
def h13 : List HTy := [.ts]
def R13 : List RTpl := [⟨.s, [], [.ts]⟩]
def n13 : An := .sq (.nd) (.sq (.nd) (.sq (.sq (.nd) (.lp [0] [] ⟨[(3, .sl .n 300400), (4, .i .i64)], [(300400, .ar 5 (.int .u8 .nil))]⟩ [.ti, .tl (.int .u8 .nil)] [(2, ⟨[(3, .sl .n 300425)], [(300425, .ar 5 (.int .u8 .nil))]⟩)] [[.tl (.int .u8 .nil)]] (.sq (.nd) (.sq (.jn [4] [] [(0, ⟨[(3, .sl .n 300850)], [(300850, .ar 5 (.int .u8 .nil))]⟩)] [[.tl (.int .u8 .nil)]] (.sq (.nd) (.jn [3] [300400] [(0, ⟨[(14, .b)], []⟩)] [[.tb]] (.nd) (.nd))) (.nd)) (.nd))))) (.nd)))
theorem e13 (k : Nat) (y : Tup h13) : exec (P := Tryd.prog) D (lk rowsL) [] k (bodyOf Tryd.f13) n13 (fnE Tryd.f13 A13 [] (inOf A13 (ofTup h13 y))) (fnSt [] (inOf A13 (ofTup h13 y))) (leafR D (fnE Tryd.f13 A13 [] (inOf A13 (ofTup h13 y))) Tryd.f13.results.toList (R13.map (·.h)) R13) = F13 k y := by kernel_rfl
noncomputable def C13 (k : Nat) : Con Tryd.prog := ⟨13, Tryd.f13, Tryd.func13, by kernel_rfl, by kernel_rfl, A13, h13, [], R13, fun y => F13 k y, fun y r h => con_ok good mixed (c := bodyOf Tryd.f13) Tryd.func13 (by kernel_rfl) n13 y ((e13 k y).trans h)⟩
noncomputable def L14_18 (k : Nat) (y7 : (Bool × (List (Int × Int × ByteArray × Bool × (List (Int × Int)))))) (z22 : (ByteArray × Int)) : Option ((ByteArray × Int) ⊕ (ByteArray ⊕ ByteArray)) :=
cond (decide (z22.2 < (y7.2.length : Int))) (
(ix y7.2 z22.2).bind fun a23 =>
(y7.2[z22.2.toNat]?).bind fun a24 =>
cond (a24.1 != 0) (
some (.inr (.inl (⟨#[]⟩ : ByteArray)))) (
grd (decide (z22.1.size + a24.2.2.1.size ≤ 9223372036854775807)) <|
some (.inl ((z22.1 ++ a24.2.2.1), (IntKind.wrap .i64 (z22.2 + 1)))))) (
some (.inr (.inr z22.1)))
noncomputable def F14 (k : Nat) (x1 : ByteArray) : Option (ByteArray × Bool) :=
(((F16 k x1).bind fun y4 => 
sel (fun y5 =>
some (y5, ([] : List (Int × Int × ByteArray × Bool × (List (Int × Int)))))) (fun y6 =>
some (y6.1, y6.2)) y4 : Option (Bool × (List (Int × Int × ByteArray × Bool × (List (Int × Int))))))).bind fun y7 => 
cond (!y7.1) (
some ((⟨#[]⟩ : ByteArray), false)) (
(loopN (L14_18 k y7) k ((⟨#[]⟩ : ByteArray), 0)).bind fun y25 => 
sel (fun y26 =>
some (y26, false)) (fun y27 =>
some (y27, true)) y25)
def A14 : CTpl := ⟨[.s], []⟩
def h14 : List HTy := [.ts]
def R14 : List RTpl := [⟨.tp [.s, .b], [], [.ts, .tb]⟩]
def n14 : An := .sq (.nd) (.jn [] [] [(0, ⟨[(4, .sl .u 300100), (5, .b)], [(300100, .ar 41 (.int .i64 (.int .i32 (.str (.bool (.sl (.int .i32 (.int .i32 .nil)) .nil))))))]⟩)] [[.tb, .tl (.int .i64 (.int .i32 (.str (.bool (.sl (.int .i32 (.int .i32 .nil)) .nil)))))]] (.nd) (.sq (.nd) (.sq (.nd) (.sq (.sq (.nd) (.lp [16, 17] [300100] ⟨[(6, .s), (18, .i .i64)], []⟩ [.ts, .ti] [(1, ⟨[(2, .s), (3, .lb false)], []⟩), (2, ⟨[(6, .s)], []⟩)] [[.ts], [.ts]] (.nd))) (.nd)))))
theorem e14 (k : Nat) (hm : Mo.m = false) (y : Tup h14) : exec (P := Tryd.prog) D (lk rowsL) [C16 k hm] k (bodyOf Tryd.f14) n14 (fnE Tryd.f14 A14 [] (inOf A14 (ofTup h14 y))) (fnSt [] (inOf A14 (ofTup h14 y))) (leafR D (fnE Tryd.f14 A14 [] (inOf A14 (ofTup h14 y))) Tryd.f14.results.toList (R14.map (·.h)) R14) = F14 k y := by kernel_rfl
noncomputable def C14 (k : Nat) (hm : Mo.m = false) : Con Tryd.prog := ⟨14, Tryd.f14, Tryd.func14, by kernel_rfl, by kernel_rfl, A14, h14, [], R14, fun y => F14 k y, fun y r h => con_ok good mixed (c := bodyOf Tryd.f14) Tryd.func14 (by kernel_rfl) n14 y ((e14 k hm y).trans h)⟩
noncomputable def L23_8 (k : Nat) (z3 : (ByteArray × Nat × (List Int))) : Option ((ByteArray × Nat × (List Int)) ⊕ (ByteArray × Nat × (List Int))) :=
cond (decide (z3.2.1 < z3.1.size)) (
grd (decide ((z3.2.2.length + [((Utf8.decode z3.1 z3.2.1).1 : Int)].length) * 4 ≤ 140737488355328)) <|
some (.inl (z3.1, (z3.2.1 + (Utf8.decode z3.1 z3.2.1).2), (z3.2.2 ++ [((Utf8.decode z3.1 z3.2.1).1 : Int)])))) (
some (.inr (z3.1, z3.2.1, z3.2.2)))
noncomputable def F23 (k : Nat) (x1 : ByteArray) : Option (List Int) :=
(loopN (L23_8 k) k (x1, 0, ([] : List Int))).bind fun y4 => 
some y4.2.2
def A23 : CTpl := ⟨[.s], []⟩
def h23 : List HTy := [.ts]
def R23 : List RTpl := [⟨.sl .u 500000, [(500000, .ar 21 (.int .i32 .nil))], [.tl (.int .i32 .nil)]⟩]
def n23 : An := .sq (.nd) (.sq (.nd) (.sq (.sq (.nd) (.lp [7] [] ⟨[(3, .sl .n 300400)], [(7, .si), (300400, .ar 21 (.int .i32 .nil))]⟩ [.ts, .tn, .tl (.int .i32 .nil)] [(2, ⟨[(3, .sl .n 300425)], [(7, .si), (300425, .ar 21 (.int .i32 .nil))]⟩)] [[.ts, .tn, .tl (.int .i32 .nil)]] (.nd))) (.nd)))
theorem e23 (k : Nat) (y : Tup h23) : exec (P := Tryd.prog) D (lk rowsL) [] k (bodyOf Tryd.f23) n23 (fnE Tryd.f23 A23 [] (inOf A23 (ofTup h23 y))) (fnSt [] (inOf A23 (ofTup h23 y))) (leafR D (fnE Tryd.f23 A23 [] (inOf A23 (ofTup h23 y))) Tryd.f23.results.toList (R23.map (·.h)) R23) = F23 k y := by kernel_rfl
noncomputable def C23 (k : Nat) : Con Tryd.prog := ⟨23, Tryd.f23, Tryd.func23, by kernel_rfl, by kernel_rfl, A23, h23, [], R23, fun y => F23 k y, fun y r h => con_ok good mixed (c := bodyOf Tryd.f23) Tryd.func23 (by kernel_rfl) n23 y ((e23 k y).trans h)⟩
noncomputable def F31 (k : Nat) (x1 : Int) : Option Bool :=
some (x1 != x1)
def A31 : CTpl := ⟨[.i .i32], []⟩
def h31 : List HTy := [.ti]
def R31 : List RTpl := [⟨.b, [], [.tb]⟩]
def n31 : An := .nd
theorem e31 (k : Nat) (y : Tup h31) : exec (P := Tryd.prog) D (lk rowsL) [] k (bodyOf Tryd.f31) n31 (fnE Tryd.f31 A31 [] (inOf A31 (ofTup h31 y))) (fnSt [] (inOf A31 (ofTup h31 y))) (leafR D (fnE Tryd.f31 A31 [] (inOf A31 (ofTup h31 y))) Tryd.f31.results.toList (R31.map (·.h)) R31) = F31 k y := by kernel_rfl
noncomputable def C31 (k : Nat) : Con Tryd.prog := ⟨31, Tryd.f31, Tryd.func31, by kernel_rfl, by kernel_rfl, A31, h31, [], R31, fun y => F31 k y, fun y r h => con_ok good mixed (c := bodyOf Tryd.f31) Tryd.func31 (by kernel_rfl) n31 y ((e31 k y).trans h)⟩
noncomputable def F28 (k : Nat) (x1 : Int) (x2 : Int) : Option Int :=
(F31 k x1).bind fun y2 => 
(F31 k x2).bind fun y4 => 
cond y2 (
cond y4 (
some 0) (
some (-1))) (
cond y4 (
some 1) (
cond (decide (x1 < x2)) (
some (-1)) (
cond (decide (x2 < x1)) (
some 1) (
some 0))))
def A28 : CTpl := ⟨[.i .i32, .i .i32], []⟩
def h28 : List HTy := [.ti, .ti]
def R28 : List RTpl := [⟨.i .i64, [], [.ti]⟩]
def n28 : An := .nd
theorem e28 (k : Nat) (y : Tup h28) : exec (P := Tryd.prog) D (lk rowsL) [C31 k] k (bodyOf Tryd.f28) n28 (fnE Tryd.f28 A28 [] (inOf A28 (ofTup h28 y))) (fnSt [] (inOf A28 (ofTup h28 y))) (leafR D (fnE Tryd.f28 A28 [] (inOf A28 (ofTup h28 y))) Tryd.f28.results.toList (R28.map (·.h)) R28) = F28 k y.1 y.2 := by kernel_rfl
noncomputable def C28 (k : Nat) : Con Tryd.prog := ⟨28, Tryd.f28, Tryd.func28, by kernel_rfl, by kernel_rfl, A28, h28, [], R28, fun y => F28 k y.1 y.2, fun y r h => con_ok good mixed (c := bodyOf Tryd.f28) Tryd.func28 (by kernel_rfl) n28 y ((e28 k y).trans h)⟩
noncomputable def L24_6 (k : Nat) (x1 : (List Int)) (x2 : (List Int)) (z27 : Int) : Option (Int ⊕ (Int ⊕ Unit)) :=
cond (decide (z27 < (x1.length : Int))) (
(ix x1 z27).bind fun a28 =>
cond (decide ((x2.length : Int) ≤ z27)) (
some (.inr (.inl 1))) (
(ix x2 z27).bind fun a29 =>
(x2[z27.toNat]?).bind fun a30 =>
(F28 k a28 a30).bind fun y31 => 
cond (y31 != 0) (
some (.inr (.inl y31))) (
some (.inl (IntKind.wrap .i64 (z27 + 1)))))) (
some (.inr (.inr ())))
noncomputable def F24 (k : Nat) (x1 : (List Int)) (x2 : (List Int)) : Option Int :=
(loopN (L24_6 k x1 x2) k 0).bind fun y32 => 
sel (fun y33 =>
some y33) (fun y34 =>
cond (decide ((x1.length : Int) < (x2.length : Int))) (
some (-1)) (
some 0)) y32
def A24 : CTpl := ⟨[.fz .u (.int .i32 .nil), .sl .u 1000000], [(1000000, .ar 21 (.int .i32 .nil))]⟩
def h24 : List HTy := [.tl (.int .i32 .nil), .tl (.int .i32 .nil)]
def R24 : List RTpl := [⟨.i .i64, [], [.ti]⟩]
def n24 : An := .sq (.nd) (.sq (.sq (.nd) (.lp [0, 1, 9, 10] [] ⟨[(11, .i .i64)], []⟩ [.ti] [(1, ⟨[(4, .i .i64)], []⟩), (2, ⟨[], []⟩)] [[.ti], []] (.nd))) (.nd))
theorem e24 (k : Nat) (y : Tup h24) : exec (P := Tryd.prog) D (lk rowsL) [C28 k] k (bodyOf Tryd.f24) n24 (fnE Tryd.f24 A24 [1000000] (inOf A24 (ofTup h24 y))) (fnSt [1000000] (inOf A24 (ofTup h24 y))) (leafR D (fnE Tryd.f24 A24 [1000000] (inOf A24 (ofTup h24 y))) Tryd.f24.results.toList (R24.map (·.h)) R24) = F24 k y.1 y.2 := by kernel_rfl
noncomputable def C24 (k : Nat) : Con Tryd.prog := ⟨24, Tryd.f24, Tryd.func24, by kernel_rfl, by kernel_rfl, A24, h24, [1000000], R24, fun y => F24 k y.1 y.2, fun y r h => con_ok good mixed (c := bodyOf Tryd.f24) Tryd.func24 (by kernel_rfl) n24 y ((e24 k y).trans h)⟩
noncomputable def L24_1_6 (k : Nat) (x1 : (List Int)) (x2 : (List Int)) (z22 : Int) : Option (Int ⊕ (Int ⊕ Unit)) :=
cond (decide (z22 < (x1.length : Int))) (
(ix x1 z22).bind fun a23 =>
cond (decide ((x2.length : Int) ≤ z22)) (
some (.inr (.inl 1))) (
(ix x2 z22).bind fun a24 =>
(F28 k a23 a24).bind fun y25 => 
cond (y25 != 0) (
some (.inr (.inl y25))) (
some (.inl (IntKind.wrap .i64 (z22 + 1)))))) (
some (.inr (.inr ())))
noncomputable def F24_1 (k : Nat) (x1 : (List Int)) (x2 : (List Int)) : Option Int :=
(loopN (L24_1_6 k x1 x2) k 0).bind fun y26 => 
sel (fun y27 =>
some y27) (fun y28 =>
cond (decide ((x1.length : Int) < (x2.length : Int))) (
some (-1)) (
some 0)) y26
def A24_1 : CTpl := ⟨[.fz .u (.int .i32 .nil), .fz .u (.int .i32 .nil)], []⟩
def h24_1 : List HTy := [.tl (.int .i32 .nil), .tl (.int .i32 .nil)]
def R24_1 : List RTpl := [⟨.i .i64, [], [.ti]⟩]
def n24_1 : An := .sq (.nd) (.sq (.sq (.nd) (.lp [0, 1, 9, 10] [] ⟨[(11, .i .i64)], []⟩ [.ti] [(1, ⟨[(4, .i .i64)], []⟩), (2, ⟨[], []⟩)] [[.ti], []] (.nd))) (.nd))
theorem e24_1 (k : Nat) (y : Tup h24_1) : exec (P := Tryd.prog) D (lk rowsL) [C28 k] k (bodyOf Tryd.f24) n24_1 (fnE Tryd.f24 A24_1 [] (inOf A24_1 (ofTup h24_1 y))) (fnSt [] (inOf A24_1 (ofTup h24_1 y))) (leafR D (fnE Tryd.f24 A24_1 [] (inOf A24_1 (ofTup h24_1 y))) Tryd.f24.results.toList (R24_1.map (·.h)) R24_1) = F24_1 k y.1 y.2 := by kernel_rfl
noncomputable def C24_1 (k : Nat) : Con Tryd.prog := ⟨24, Tryd.f24, Tryd.func24, by kernel_rfl, by kernel_rfl, A24_1, h24_1, [], R24_1, fun y => F24_1 k y.1 y.2, fun y r h => con_ok good mixed (c := bodyOf Tryd.f24) Tryd.func24 (by kernel_rfl) n24_1 y ((e24_1 k y).trans h)⟩
noncomputable def F15 (k : Nat) (x1 : ByteArray) (x2 : ByteArray) : Option Int :=
(F23 k x1).bind fun y3 => 
(F23 k x2).bind fun y4 => 
(F24_1 k y3 y4).bind fun y5 => 
some y5
def A15 : CTpl := ⟨[.s, .s], []⟩
def h15 : List HTy := [.ts, .ts]
def R15 : List RTpl := [⟨.i .i64, [], [.ti]⟩]
def n15 : An := .sq (.nd) (.sq (.nd) (.sq (.fr [(2, 400800), (2, 401000)]) (.nd)))
theorem e15 (k : Nat) (y : Tup h15) : exec (P := Tryd.prog) D (lk rowsL) [C23 k, C24_1 k] k (bodyOf Tryd.f15) n15 (fnE Tryd.f15 A15 [] (inOf A15 (ofTup h15 y))) (fnSt [] (inOf A15 (ofTup h15 y))) (leafR D (fnE Tryd.f15 A15 [] (inOf A15 (ofTup h15 y))) Tryd.f15.results.toList (R15.map (·.h)) R15) = F15 k y.1 y.2 := by kernel_rfl
noncomputable def C15 (k : Nat) : Con Tryd.prog := ⟨15, Tryd.f15, Tryd.func15, by kernel_rfl, by kernel_rfl, A15, h15, [], R15, fun y => F15 k y.1 y.2, fun y r h => con_ok good mixed (c := bodyOf Tryd.f15) Tryd.func15 (by kernel_rfl) n15 y ((e15 k y).trans h)⟩
noncomputable def F6 (k : Nat) (x1 : ByteArray) (x2 : ByteArray) : Option Bool :=
(F12 k x1).bind fun y2 => 
(((F7 k).bind fun y8 => 
cond (!y8) (
some true) (
(F13 k x1).bind fun y9 => 
some (!(y2.toList == y9.toList))) : Option Bool)).bind fun y10 => 
cond y10 (
some false) (
(((F8 k y2).bind fun y18 => 
cond (!y18) (
some true) (
cond (decide (60 < (x2.size : Int))) (
some true) (
(F11 k x1).bind fun y19 => 
some (!y19))) : Option Bool)).bind fun y20 => 
cond y20 (
(F9 k y2 x1).bind fun y21 => 
cond (!y21) (
some true) (
(F8 k y2).bind fun y22 => 
some y22)) (
(F14 k y2).bind fun y24 => 
(F9 k y2 x1).bind fun y25 => 
cond y25 (
cond y24.2 (
cond (y24.1.toList == x1.toList) (
(F9 k y2 x2).bind fun y26 => 
cond (!y26) (
some true) (
(F15 k x1 x2).bind fun y27 => 
some (y27 == 0))) (
some false)) (
some false)) (
some false)))
def A6 : CTpl := ⟨[.s, .s], []⟩
def h6 : List HTy := [.ts, .ts]
def R6 : List RTpl := [⟨.b, [], [.tb]⟩]
def n6 : An := .sq (.nd) (.sq (.nd) (.sq (.jn [0, 1, 5] [] [(0, ⟨[(17, .b)], []⟩)] [[.tb]] (.nd) (.nd)) (.sq (.jn [0, 1, 5] [] [(0, ⟨[(30, .b)], []⟩)] [[.tb]] (.nd) (.nd)) (.nd))))
theorem e6 (k : Nat) (hm : Mo.m = false) (y : Tup h6) : exec (P := Tryd.prog) D (lk rowsL) [C12 k hm, C7 k hm, C13 k, C8 k hm, C11 k hm, C9 k hm, C14 k hm, C15 k] k (bodyOf Tryd.f6) n6 (fnE Tryd.f6 A6 [] (inOf A6 (ofTup h6 y))) (fnSt [] (inOf A6 (ofTup h6 y))) (leafR D (fnE Tryd.f6 A6 [] (inOf A6 (ofTup h6 y))) Tryd.f6.results.toList (R6.map (·.h)) R6) = F6 k y.1 y.2 := by kernel_rfl
noncomputable def C6 (k : Nat) (hm : Mo.m = false) : Con Tryd.prog := ⟨6, Tryd.f6, Tryd.func6, by kernel_rfl, by kernel_rfl, A6, h6, [], R6, fun y => F6 k y.1 y.2, fun y r h => con_ok good mixed (c := bodyOf Tryd.f6) Tryd.func6 (by kernel_rfl) n6 y ((e6 k hm y).trans h)⟩
end Go.Proofs.YtodhjfdlbbpbpaaDoor.N

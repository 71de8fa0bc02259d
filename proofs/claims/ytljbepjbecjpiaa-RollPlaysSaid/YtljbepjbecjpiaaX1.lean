/- What the functions compute, natively, and that they do. Printed by a program (wip/xg). -/
import Derived.Test.YtljbepjbecjpiaaMc3
import Derived.Test.YtljbepjbecjpiaaProg
namespace Go.Proofs.Ytljbepjbecjpiaa.N
open Go Go.RowKit Go.Proofs.Ytljbepjbecjpiaa.Mc Go.Proofs
set_option maxRecDepth 100000
set_option maxHeartbeats 0
set_option linter.unusedVariables false
noncomputable abbrev D := decOf Try.prog
theorem good : Go.Proofs.Ytljbepjbecjpiaa.Mc.Good Try.prog D := good_of _
theorem mixed : Try.prog.follows .mixedOrders = true := by kernel_rfl
def rowsL : List (Nat × Row) := [(27, (.int .u32 .nil)), (33, (.int .i64 (.int .i64 .nil))), (44, (.int .u32 (.int .u32 (.sl (.int .i64 (.int .i64 .nil)) .nil))))]
noncomputable def F19 (k : Nat) (x1 : Int) : Option (Int × Int × Bool) :=
some (0, 0, false)
def A19 : CTpl := ⟨[.c (.pointer none), .i .u32], []⟩
def h19 : List HTy := [.ti]
def R19 : List RTpl := [⟨.tp [.ag [.i .u32, .i .u32, .c (.slice none 0 0)], .b], [], [.ti, .ti, .tb]⟩]
def n19 : An := .nd
theorem e19 (k : Nat) (y : Tup h19) : exec (P := Try.prog) D (lk rowsL) [] k (bodyOf Try.f19) n19 (fnE Try.f19 A19 [] (inOf A19 (ofTup h19 y))) (fnSt [] (inOf A19 (ofTup h19 y))) (leafR D (fnE Try.f19 A19 [] (inOf A19 (ofTup h19 y))) Try.f19.results.toList (R19.map (·.h)) R19) = F19 k y := by kernel_rfl
noncomputable def C19 (k : Nat) : Con Try.prog := ⟨19, Try.f19, Try.func19, by kernel_rfl, by kernel_rfl, A19, h19, [], R19, fun y => F19 k y, fun y r h => con_ok good mixed (c := bodyOf Try.f19) Try.func19 (by kernel_rfl) n19 y ((e19 k y).trans h)⟩
noncomputable def F13 (k : Nat) : Option (Int × (List (Int × Int × (List (Int × Int))))) :=
some (0, ([] : List (Int × Int × (List (Int × Int)))))
def A13 : CTpl := ⟨[], []⟩
def h13 : List HTy := []
def R13 : List RTpl := [⟨.pt 500000 0, [(500000, .bx 59 [.sl .u 500001, .i .u32]), (500001, .ar 35 (.int .u32 (.int .u32 (.sl (.int .i64 (.int .i64 .nil)) .nil))))], [.ti, .tl (.int .u32 (.int .u32 (.sl (.int .i64 (.int .i64 .nil)) .nil)))]⟩]
def n13 : An := .nd
theorem e13 (k : Nat) (y : Tup h13) : exec (P := Try.prog) D (lk rowsL) [] k (bodyOf Try.f13) n13 (fnE Try.f13 A13 [] (inOf A13 (ofTup h13 y))) (fnSt [] (inOf A13 (ofTup h13 y))) (leafR D (fnE Try.f13 A13 [] (inOf A13 (ofTup h13 y))) Try.f13.results.toList (R13.map (·.h)) R13) = F13 k := by kernel_rfl
noncomputable def C13 (k : Nat) : Con Try.prog := ⟨13, Try.f13, Try.func13, by kernel_rfl, by kernel_rfl, A13, h13, [], R13, fun y => F13 k, fun y r h => con_ok good mixed (c := bodyOf Try.f13) Try.func13 (by kernel_rfl) n13 y ((e13 k y).trans h)⟩
noncomputable def F30 (k : Nat) (x1 : (List (Int × Int))) : Option (List (Int × Int)) :=
nilT x1.isEmpty (
some ([] : List (Int × Int))) (
grd (decide ((([] : List (Int × Int)).length + x1.length) * 16 ≤ 140737488355328)) <|
some (([] : List (Int × Int)) ++ x1))
def A30 : CTpl := ⟨[.fz .u (.int .i64 (.int .i64 .nil))], []⟩
def h30 : List HTy := [.tl (.int .i64 (.int .i64 .nil))]
def R30 : List RTpl := [⟨.sl .u 500000, [(500000, .ar 50 (.int .i64 (.int .i64 .nil)))], [.tl (.int .i64 (.int .i64 .nil))]⟩]
def n30 : An := .nd
theorem e30 (k : Nat) (y : Tup h30) : exec (P := Try.prog) D (lk rowsL) [] k (bodyOf Try.f30) n30 (fnE Try.f30 A30 [] (inOf A30 (ofTup h30 y))) (fnSt [] (inOf A30 (ofTup h30 y))) (leafR D (fnE Try.f30 A30 [] (inOf A30 (ofTup h30 y))) Try.f30.results.toList (R30.map (·.h)) R30) = F30 k y := by kernel_rfl
noncomputable def C30 (k : Nat) : Con Try.prog := ⟨30, Try.f30, Try.func30, by kernel_rfl, by kernel_rfl, A30, h30, [], R30, fun y => F30 k y, fun y r h => con_ok good mixed (c := bodyOf Try.f30) Try.func30 (by kernel_rfl) n30 y ((e30 k y).trans h)⟩
noncomputable def F26 (k : Nat) (x1 : Int) (x2 : Int) (x3 : (List (Int × Int))) : Option (Int × Int × (List (Int × Int))) :=
(F30 k x3).bind fun y2 => 
some (x1, x2, y2)
def A26 : CTpl := ⟨[.ag [.i .u32, .i .u32, .fz .u (.int .i64 (.int .i64 .nil))]], []⟩
def h26 : List HTy := [.ti, .ti, .tl (.int .i64 (.int .i64 .nil))]
def R26 : List RTpl := [⟨.ag [.i .u32, .i .u32, .fz .u (.int .i64 (.int .i64 .nil))], [], [.ti, .ti, .tl (.int .i64 (.int .i64 .nil))]⟩]
def n26 : An := .nd
theorem e26 (k : Nat) (y : Tup h26) : exec (P := Try.prog) D (lk rowsL) [C30 k] k (bodyOf Try.f26) n26 (fnE Try.f26 A26 [] (inOf A26 (ofTup h26 y))) (fnSt [] (inOf A26 (ofTup h26 y))) (leafR D (fnE Try.f26 A26 [] (inOf A26 (ofTup h26 y))) Try.f26.results.toList (R26.map (·.h)) R26) = F26 k y.1 y.2.1 y.2.2 := by kernel_rfl
noncomputable def C26 (k : Nat) : Con Try.prog := ⟨26, Try.f26, Try.func26, by kernel_rfl, by kernel_rfl, A26, h26, [], R26, fun y => F26 k y.1 y.2.1 y.2.2, fun y r h => con_ok good mixed (c := bodyOf Try.f26) Try.func26 (by kernel_rfl) n26 y ((e26 k y).trans h)⟩
noncomputable def F14 (k : Nat) (x1 : Int) (x2 : Int) (x3 : (List (Int × Int))) (x4 : Int) (x5 : (List (Int × Int × (List (Int × Int))))) : Option (Int × Int × (List (Int × Int × (List (Int × Int))))) :=
((cond (x1 == 0) (
some true) (
some ((x3.length : Int) == 0)) : Option Bool)).bind fun y2 => 
cond y2 (
some (1, x4, x5)) (
cond (decide (x1 ≤ x4)) (
some (7, x4, x5)) (
(F26 k x1 x2 x3).bind fun y4 => 
grd (decide ((x5.length + [(y4.1, y4.2.1, y4.2.2)].length) * 32 ≤ 140737488355328)) <|
some (0, x1, (x5 ++ [(y4.1, y4.2.1, y4.2.2)]))))
def A14 : CTpl := ⟨[.pt 1000000 0, .ag [.i .u32, .i .u32, .fz .u (.int .i64 (.int .i64 .nil))]], [(1000000, .bx 59 [.sl .u 1000001, .i .u32]), (1000001, .ar 35 (.int .u32 (.int .u32 (.sl (.int .i64 (.int .i64 .nil)) .nil))))]⟩
def h14 : List HTy := [.ti, .ti, .tl (.int .i64 (.int .i64 .nil)), .ti, .tl (.int .u32 (.int .u32 (.sl (.int .i64 (.int .i64 .nil)) .nil)))]
def R14 : List RTpl := [⟨.i .i64, [(1000000, .bx 59 [.sl .u 500000, .i .u32]), (1000001, .gone), (500000, .ar 35 (.int .u32 (.int .u32 (.sl (.int .i64 (.int .i64 .nil)) .nil))))], [.ti, .ti, .tl (.int .u32 (.int .u32 (.sl (.int .i64 (.int .i64 .nil)) .nil)))]⟩]
def n14 : An := .sq (.nd) (.sq (.jn [0, 3] [3, 1000000, 1000001] [(0, ⟨[(5, .b)], []⟩)] [[.tb]] (.nd) (.sq (.nd) (.sq (.mk [] [0, 1, 0, 4, 12, 28, 63, 127]) (.nd)))) (.sq (.mk [] [0, 0, 0, 4, 12, 28, 0, 64, 192, 508, 0, 1024, 1021, 5117, 13309, 32767, 65535, 131071]) (.nd)))
theorem e14 (k : Nat) (y : Tup h14) : exec (P := Try.prog) D (lk rowsL) [C26 k] k (bodyOf Try.f14) n14 (fnE Try.f14 A14 [] (inOf A14 (ofTup h14 y))) (fnSt [] (inOf A14 (ofTup h14 y))) (leafR D (fnE Try.f14 A14 [] (inOf A14 (ofTup h14 y))) Try.f14.results.toList (R14.map (·.h)) R14) = F14 k y.1 y.2.1 y.2.2.1 y.2.2.2.1 y.2.2.2.2 := by kernel_rfl
noncomputable def C14 (k : Nat) : Con Try.prog := ⟨14, Try.f14, Try.func14, by kernel_rfl, by kernel_rfl, A14, h14, [], R14, fun y => F14 k y.1 y.2.1 y.2.2.1 y.2.2.2.1 y.2.2.2.2, fun y r h => con_ok good mixed (c := bodyOf Try.f14) Try.func14 (by kernel_rfl) n14 y ((e14 k y).trans h)⟩
noncomputable def F25 (k : Nat) (x1 : Int) (x2 : Int) (x3 : Int) : Option Bool :=
some (x1 == x3)
def A25 : CTpl := ⟨[.ag [.i .i64, .i .i64], .pt 1000000 0], [(1000000, .bx 3 [.i .i64])]⟩
def h25 : List HTy := [.ti, .ti, .ti]
def R25 : List RTpl := [⟨.b, [], [.tb]⟩]
def n25 : An := .nd
theorem e25 (k : Nat) (y : Tup h25) : exec (P := Try.prog) D (lk rowsL) [] k (bodyOf Try.f25) n25 (fnE Try.f25 A25 [1000000] (inOf A25 (ofTup h25 y))) (fnSt [1000000] (inOf A25 (ofTup h25 y))) (leafR D (fnE Try.f25 A25 [1000000] (inOf A25 (ofTup h25 y))) Try.f25.results.toList (R25.map (·.h)) R25) = F25 k y.1 y.2.1 y.2.2 := by kernel_rfl
noncomputable def C25 (k : Nat) : Con Try.prog := ⟨25, Try.f25, Try.func25, by kernel_rfl, by kernel_rfl, A25, h25, [1000000], R25, fun y => F25 k y.1 y.2.1 y.2.2, fun y r h => con_ok good mixed (c := bodyOf Try.f25) Try.func25 (by kernel_rfl) n25 y ((e25 k y).trans h)⟩
noncomputable def L29_6 (k : Nat) (x1 : (List (Int × Int))) (x2 : Int) (z19 : Int) : Option (Int ⊕ (Int ⊕ Unit)) :=
cond (decide (z19 < (x1.length : Int))) (
(ix x1 z19).bind fun a20 =>
(F25 k a20.1 a20.2 x2).bind fun y21 => 
cond y21 (
some (.inr (.inl z19))) (
some (.inl (IntKind.wrap .i64 (z19 + 1))))) (
some (.inr (.inr ())))
noncomputable def F29 (k : Nat) (x1 : (List (Int × Int))) (x2 : Int) : Option Int :=
(loopN (L29_6 k x1 x2) k 0).bind fun y22 => 
sel (fun y23 =>
some y23) (fun y24 =>
some (-1)) y22
def A29 : CTpl := ⟨[.fz .u (.int .i64 (.int .i64 .nil)), .fn 25 [.pt 1000000 0]], [(1000000, .bx 3 [.i .i64])]⟩
def h29 : List HTy := [.tl (.int .i64 (.int .i64 .nil)), .ti]
def R29 : List RTpl := [⟨.i .i64, [], [.ti]⟩]
def n29 : An := .sq (.nd) (.sq (.sq (.nd) (.lp [0, 1, 7] [] ⟨[(8, .i .i64)], []⟩ [.ti] [(1, ⟨[(4, .i .i64)], []⟩), (2, ⟨[], []⟩)] [[.ti], []] (.nd))) (.nd))
theorem e29 (k : Nat) (y : Tup h29) : exec (P := Try.prog) D (lk rowsL) [C25 k] k (bodyOf Try.f29) n29 (fnE Try.f29 A29 [1000000] (inOf A29 (ofTup h29 y))) (fnSt [1000000] (inOf A29 (ofTup h29 y))) (leafR D (fnE Try.f29 A29 [1000000] (inOf A29 (ofTup h29 y))) Try.f29.results.toList (R29.map (·.h)) R29) = F29 k y.1 y.2 := by kernel_rfl
noncomputable def C29 (k : Nat) : Con Try.prog := ⟨29, Try.f29, Try.func29, by kernel_rfl, by kernel_rfl, A29, h29, [1000000], R29, fun y => F29 k y.1 y.2, fun y r h => con_ok good mixed (c := bodyOf Try.f29) Try.func29 (by kernel_rfl) n29 y ((e29 k y).trans h)⟩
noncomputable def F24 (k : Nat) (x1 : (List (Int × Int))) (x2 : Int) : Option Bool :=
(F29 k x1 x2).bind fun y1 => 
some (decide (0 ≤ y1))
def A24 : CTpl := ⟨[.fz .u (.int .i64 (.int .i64 .nil)), .fn 25 [.pt 1000000 0]], [(1000000, .bx 3 [.i .i64])]⟩
def h24 : List HTy := [.tl (.int .i64 (.int .i64 .nil)), .ti]
def R24 : List RTpl := [⟨.b, [], [.tb]⟩]
def n24 : An := .nd
theorem e24 (k : Nat) (y : Tup h24) : exec (P := Try.prog) D (lk rowsL) [C29 k] k (bodyOf Try.f24) n24 (fnE Try.f24 A24 [1000000] (inOf A24 (ofTup h24 y))) (fnSt [1000000] (inOf A24 (ofTup h24 y))) (leafR D (fnE Try.f24 A24 [1000000] (inOf A24 (ofTup h24 y))) Try.f24.results.toList (R24.map (·.h)) R24) = F24 k y.1 y.2 := by kernel_rfl
noncomputable def C24 (k : Nat) : Con Try.prog := ⟨24, Try.f24, Try.func24, by kernel_rfl, by kernel_rfl, A24, h24, [1000000], R24, fun y => F24 k y.1 y.2, fun y r h => con_ok good mixed (c := bodyOf Try.f24) Try.func24 (by kernel_rfl) n24 y ((e24 k y).trans h)⟩
noncomputable def L12_11 (k : Nat) (x1 : Int) (x3 : (List (Int × Int × (List (Int × Int))))) (z25 : (Int × (List Int))) : Option ((Int × (List Int)) ⊕ (List Int)) :=
cond (decide (z25.1 < (x3.length : Int))) (
(((ix x3 z25.1).bind fun a26 =>
(x3[z25.1.toNat]?).bind fun a27 =>
(F24 k a27.2.2 x1).bind fun y28 => 
cond y28 (
grd (decide ((z25.2.length + [a27.1].length) * 4 ≤ 140737488355328)) <|
some (z25.2 ++ [a27.1])) (
some z25.2) : Option (List Int))).bind fun y29 => 
some (.inl ((IntKind.wrap .i64 (z25.1 + 1)), y29))) (
some (.inr z25.2))
noncomputable def F12 (k : Nat) (x1 : Int) (x2 : Int) (x3 : (List (Int × Int × (List (Int × Int))))) : Option (List Int) :=
(loopN (L12_11 k x1 x3) k (0, ([] : List Int))).bind fun y30 => 
some y30
def A12 : CTpl := ⟨[.pt 1000000 0, .i .i64], [(1000000, .bx 59 [.sl .u 1000001, .i .u32]), (1000001, .ar 35 (.int .u32 (.int .u32 (.sl (.int .i64 (.int .i64 .nil)) .nil))))]⟩
def h12 : List HTy := [.ti, .ti, .tl (.int .u32 (.int .u32 (.sl (.int .i64 (.int .i64 .nil)) .nil)))]
def R12 : List RTpl := [⟨.sl .u 500000, [(500000, .ar 29 (.int .u32 .nil))], [.tl (.int .u32 .nil)]⟩]
def n12 : An := .sq (.nd) (.sq (.nd) (.sq (.sq (.nd) (.sq (.sq (.nd) (.lp [3, 13, 14] [3] ⟨[(5, .sl .n 300550), (15, .i .i64)], [(300550, .ar 29 (.int .u32 .nil))]⟩ [.ti, .tl (.int .u32 .nil)] [(2, ⟨[(5, .sl .n 300575)], [(300575, .ar 29 (.int .u32 .nil))]⟩)] [[.tl (.int .u32 .nil)]] (.sq (.nd) (.sq (.nd) (.jn [15] [] [(0, ⟨[(5, .sl .n 300900)], [(300900, .ar 29 (.int .u32 .nil))]⟩)] [[.tl (.int .u32 .nil)]] (.nd) (.nd)))))) (.nd))) (.nd)))
theorem e12 (k : Nat) (y : Tup h12) : exec (P := Try.prog) D (lk rowsL) [C24 k] k (bodyOf Try.f12) n12 (fnE Try.f12 A12 [1000000, 1000001] (inOf A12 (ofTup h12 y))) (fnSt [1000000, 1000001] (inOf A12 (ofTup h12 y))) (leafR D (fnE Try.f12 A12 [1000000, 1000001] (inOf A12 (ofTup h12 y))) Try.f12.results.toList (R12.map (·.h)) R12) = F12 k y.1 y.2.1 y.2.2 := by kernel_rfl
noncomputable def C12 (k : Nat) : Con Try.prog := ⟨12, Try.f12, Try.func12, by kernel_rfl, by kernel_rfl, A12, h12, [1000000, 1000001], R12, fun y => F12 k y.1 y.2.1 y.2.2, fun y r h => con_ok good mixed (c := bodyOf Try.f12) Try.func12 (by kernel_rfl) n12 y ((e12 k y).trans h)⟩
noncomputable def F27 (k : Nat) (x1 : Nat) (x2 : Nat) (x3 : (List (Int × Int × (List (Int × Int))))) : Option (List (Int × Int × (List (Int × Int)))) :=
nilT (Nat.beq x2 0) (
some ([] : List (Int × Int × (List (Int × Int))))) (
grd (decide ((([] : List (Int × Int × (List (Int × Int)))).length + ((x3.drop x1).take x2).length) * 32 ≤ 140737488355328)) <|
some (([] : List (Int × Int × (List (Int × Int)))) ++ ((x3.drop x1).take x2)))
def A27 : CTpl := ⟨[.sw 1000000], [(1000000, .ar 35 (.int .u32 (.int .u32 (.sl (.int .i64 (.int .i64 .nil)) .nil))))]⟩
def h27 : List HTy := [.tn, .tn, .tl (.int .u32 (.int .u32 (.sl (.int .i64 (.int .i64 .nil)) .nil)))]
def R27 : List RTpl := [⟨.sl .u 500000, [(500000, .ar 35 (.int .u32 (.int .u32 (.sl (.int .i64 (.int .i64 .nil)) .nil))))], [.tl (.int .u32 (.int .u32 (.sl (.int .i64 (.int .i64 .nil)) .nil)))]⟩]
def n27 : An := .nd
theorem e27 (k : Nat) (y : Tup h27) : exec (P := Try.prog) D (lk rowsL) [] k (bodyOf Try.f27) n27 (fnE Try.f27 A27 [1000000] (inOf A27 (ofTup h27 y))) (fnSt [1000000] (inOf A27 (ofTup h27 y))) (leafR D (fnE Try.f27 A27 [1000000] (inOf A27 (ofTup h27 y))) Try.f27.results.toList (R27.map (·.h)) R27) = F27 k y.1 y.2.1 y.2.2 := by kernel_rfl
noncomputable def C27 (k : Nat) : Con Try.prog := ⟨27, Try.f27, Try.func27, by kernel_rfl, by kernel_rfl, A27, h27, [1000000], R27, fun y => F27 k y.1 y.2.1 y.2.2, fun y r h => con_ok good mixed (c := bodyOf Try.f27) Try.func27 (by kernel_rfl) n27 y ((e27 k y).trans h)⟩
noncomputable def L17_14 (k : Nat) (x1 : Int) (x3 : (List (Int × Int × (List (Int × Int))))) (z22 : Int) : Option (Int ⊕ Int) :=
((cond (decide (z22 < (x3.length : Int))) (
(ix x3 z22).bind fun a23 =>
(x3[z22.toNat]?).bind fun a24 =>
some (decide (a24.1 ≤ x1))) (
some false) : Option Bool)).bind fun y25 => 
cond y25 (
some (.inl (IntKind.wrap .i64 (z22 + 1)))) (
some (.inr z22))
noncomputable def F17 (k : Nat) (x1 : Int) (x2 : Int) (x3 : (List (Int × Int × (List (Int × Int))))) : Option (Int × Int × (List (Int × Int × (List (Int × Int))))) :=
(loopN (L17_14 k x1 x3) k 0).bind fun y26 => 
grd (bnds (x3.length : Int) y26 (x3.length : Int)) <|
(F27 k y26.toNat (((x3.length : Int).toNat) - y26.toNat) x3).bind fun y28 => 
some (y26, x2, y28)
def A17 : CTpl := ⟨[.pt 1000000 0, .i .u32], [(1000000, .bx 59 [.sl .u 1000001, .i .u32]), (1000001, .ar 35 (.int .u32 (.int .u32 (.sl (.int .i64 (.int .i64 .nil)) .nil))))]⟩
def h17 : List HTy := [.ti, .ti, .tl (.int .u32 (.int .u32 (.sl (.int .i64 (.int .i64 .nil)) .nil)))]
def R17 : List RTpl := [⟨.i .i64, [(1000000, .bx 59 [.sl .u 500000, .i .u32]), (500000, .ar 35 (.int .u32 (.int .u32 (.sl (.int .i64 (.int .i64 .nil)) .nil))))], [.ti, .ti, .tl (.int .u32 (.int .u32 (.sl (.int .i64 (.int .i64 .nil)) .nil)))]⟩]
def n17 : An := .sq (.nd) (.sq (.nd) (.sq (.nd) (.sq (.lp [0, 1] [1000000] ⟨[(5, .i .i64)], []⟩ [.ti] [(2, ⟨[(5, .i .i64)], []⟩)] [[.ti]] (.sq (.jn [5] [] [(0, ⟨[(26, .b)], []⟩)] [[.tb]] (.nd) (.nd)) (.nd))) (.nd))))
theorem e17 (k : Nat) (y : Tup h17) : exec (P := Try.prog) D (lk rowsL) [C27 k] k (bodyOf Try.f17) n17 (fnE Try.f17 A17 [1000001] (inOf A17 (ofTup h17 y))) (fnSt [1000001] (inOf A17 (ofTup h17 y))) (leafR D (fnE Try.f17 A17 [1000001] (inOf A17 (ofTup h17 y))) Try.f17.results.toList (R17.map (·.h)) R17) = F17 k y.1 y.2.1 y.2.2 := by kernel_rfl
noncomputable def C17 (k : Nat) : Con Try.prog := ⟨17, Try.f17, Try.func17, by kernel_rfl, by kernel_rfl, A17, h17, [1000001], R17, fun y => F17 k y.1 y.2.1 y.2.2, fun y r h => con_ok good mixed (c := bodyOf Try.f17) Try.func17 (by kernel_rfl) n17 y ((e17 k y).trans h)⟩
noncomputable def F16 (k : Nat) (x1 : Int) (x2 : (List (Int × Int × (List (Int × Int))))) : Option Int :=
some x1
def A16 : CTpl := ⟨[.pt 1000000 0], [(1000000, .bx 59 [.sl .u 1000001, .i .u32]), (1000001, .ar 35 (.int .u32 (.int .u32 (.sl (.int .i64 (.int .i64 .nil)) .nil))))]⟩
def h16 : List HTy := [.ti, .tl (.int .u32 (.int .u32 (.sl (.int .i64 (.int .i64 .nil)) .nil)))]
def R16 : List RTpl := [⟨.i .u32, [], [.ti]⟩]
def n16 : An := .nd
theorem e16 (k : Nat) (y : Tup h16) : exec (P := Try.prog) D (lk rowsL) [] k (bodyOf Try.f16) n16 (fnE Try.f16 A16 [1000000, 1000001] (inOf A16 (ofTup h16 y))) (fnSt [1000000, 1000001] (inOf A16 (ofTup h16 y))) (leafR D (fnE Try.f16 A16 [1000000, 1000001] (inOf A16 (ofTup h16 y))) Try.f16.results.toList (R16.map (·.h)) R16) = F16 k y.1 y.2 := by kernel_rfl
noncomputable def C16 (k : Nat) : Con Try.prog := ⟨16, Try.f16, Try.func16, by kernel_rfl, by kernel_rfl, A16, h16, [1000000, 1000001], R16, fun y => F16 k y.1 y.2, fun y r h => con_ok good mixed (c := bodyOf Try.f16) Try.func16 (by kernel_rfl) n16 y ((e16 k y).trans h)⟩
noncomputable def F15 (k : Nat) (x1 : Int) (x2 : (List (Int × Int × (List (Int × Int))))) : Option Int :=
some (x2.length : Int)
def A15 : CTpl := ⟨[.pt 1000000 0], [(1000000, .bx 59 [.sl .u 1000001, .i .u32]), (1000001, .ar 35 (.int .u32 (.int .u32 (.sl (.int .i64 (.int .i64 .nil)) .nil))))]⟩
def h15 : List HTy := [.ti, .tl (.int .u32 (.int .u32 (.sl (.int .i64 (.int .i64 .nil)) .nil)))]
def R15 : List RTpl := [⟨.i .i64, [], [.ti]⟩]
def n15 : An := .nd
theorem e15 (k : Nat) (y : Tup h15) : exec (P := Try.prog) D (lk rowsL) [] k (bodyOf Try.f15) n15 (fnE Try.f15 A15 [1000000, 1000001] (inOf A15 (ofTup h15 y))) (fnSt [1000000, 1000001] (inOf A15 (ofTup h15 y))) (leafR D (fnE Try.f15 A15 [1000000, 1000001] (inOf A15 (ofTup h15 y))) Try.f15.results.toList (R15.map (·.h)) R15) = F15 k y.1 y.2 := by kernel_rfl
noncomputable def C15 (k : Nat) : Con Try.prog := ⟨15, Try.f15, Try.func15, by kernel_rfl, by kernel_rfl, A15, h15, [1000000, 1000001], R15, fun y => F15 k y.1 y.2, fun y r h => con_ok good mixed (c := bodyOf Try.f15) Try.func15 (by kernel_rfl) n15 y ((e15 k y).trans h)⟩
noncomputable def F9 (k : Nat) : Option Bool :=
(F13 k).bind fun y2 => 
(F14 k 3 1 [(0, 1)] y2.1 y2.2).bind fun y4 => 
(F14 k 5 5 [(0, 2), (1, 1)] y4.2.1 y4.2.2).bind fun y6 => 
(F12 k 1 y6.2.1 y6.2.2).bind fun y8 => 
cond (y4.1 == 0) (
cond (y6.1 == 0) (
cond ((y8.length : Int) == 1) (
(ix y8 0).bind fun a9 =>
(y8[0]?).bind fun a10 =>
cond (a10 == 5) (
(F17 k 3 y6.2.1 y6.2.2).bind fun y11 => 
cond (y11.1 == 1) (
(F16 k y11.2.1 y11.2.2).bind fun y12 => 
cond (y12 == 5) (
(F15 k y11.2.1 y11.2.2).bind fun y13 => 
some (y13 == 1)) (
some false)) (
some false)) (
some false)) (
some false)) (
some false)) (
some false)
def A9 : CTpl := ⟨[], []⟩
def h9 : List HTy := []
def R9 : List RTpl := [⟨.b, [], [.tb]⟩]
def n9 : An := .sq (.nd) (.sq (.nd) (.sq (.nd) (.sq (.fr [(4, 10)]) (.sq (.fr [(5, 16)]) (.nd)))))
theorem e9 (k : Nat) (y : Tup h9) : exec (P := Try.prog) D (lk rowsL) [C13 k, C14 k, C12 k, C17 k, C16 k, C15 k] k (bodyOf Try.f9) n9 (fnE Try.f9 A9 [] (inOf A9 (ofTup h9 y))) (fnSt [] (inOf A9 (ofTup h9 y))) (leafR D (fnE Try.f9 A9 [] (inOf A9 (ofTup h9 y))) Try.f9.results.toList (R9.map (·.h)) R9) = F9 k := by kernel_rfl
noncomputable def C9 (k : Nat) : Con Try.prog := ⟨9, Try.f9, Try.func9, by kernel_rfl, by kernel_rfl, A9, h9, [], R9, fun y => F9 k, fun y r h => con_ok good mixed (c := bodyOf Try.f9) Try.func9 (by kernel_rfl) n9 y ((e9 k y).trans h)⟩
noncomputable def F14_1 (k : Nat) (x1 : Int) (x2 : Int) (x3 : (List (Int × Int))) : Option Int :=
some 1
def A14_1 : CTpl := ⟨[.c (.pointer none), .ag [.i .u32, .i .u32, .fz .u (.int .i64 (.int .i64 .nil))]], []⟩
def h14_1 : List HTy := [.ti, .ti, .tl (.int .i64 (.int .i64 .nil))]
def R14_1 : List RTpl := [⟨.i .i64, [], [.ti]⟩]
def n14_1 : An := .nd
theorem e14_1 (k : Nat) (y : Tup h14_1) : exec (P := Try.prog) D (lk rowsL) [] k (bodyOf Try.f14) n14_1 (fnE Try.f14 A14_1 [] (inOf A14_1 (ofTup h14_1 y))) (fnSt [] (inOf A14_1 (ofTup h14_1 y))) (leafR D (fnE Try.f14 A14_1 [] (inOf A14_1 (ofTup h14_1 y))) Try.f14.results.toList (R14_1.map (·.h)) R14_1) = F14_1 k y.1 y.2.1 y.2.2 := by kernel_rfl
noncomputable def C14_1 (k : Nat) : Con Try.prog := ⟨14, Try.f14, Try.func14, by kernel_rfl, by kernel_rfl, A14_1, h14_1, [], R14_1, fun y => F14_1 k y.1 y.2.1 y.2.2, fun y r h => con_ok good mixed (c := bodyOf Try.f14) Try.func14 (by kernel_rfl) n14_1 y ((e14_1 k y).trans h)⟩
noncomputable def F12_1 (k : Nat) (x1 : Int) : Option Unit :=
some ()
def A12_1 : CTpl := ⟨[.c (.pointer none), .i .i64], []⟩
def h12_1 : List HTy := [.ti]
def R12_1 : List RTpl := [⟨.c (.slice none 0 0), [], []⟩]
def n12_1 : An := .nd
theorem e12_1 (k : Nat) (y : Tup h12_1) : exec (P := Try.prog) D (lk rowsL) [] k (bodyOf Try.f12) n12_1 (fnE Try.f12 A12_1 [] (inOf A12_1 (ofTup h12_1 y))) (fnSt [] (inOf A12_1 (ofTup h12_1 y))) (leafR D (fnE Try.f12 A12_1 [] (inOf A12_1 (ofTup h12_1 y))) Try.f12.results.toList (R12_1.map (·.h)) R12_1) = F12_1 k y := by kernel_rfl
noncomputable def C12_1 (k : Nat) : Con Try.prog := ⟨12, Try.f12, Try.func12, by kernel_rfl, by kernel_rfl, A12_1, h12_1, [], R12_1, fun y => F12_1 k y, fun y r h => con_ok good mixed (c := bodyOf Try.f12) Try.func12 (by kernel_rfl) n12_1 y ((e12_1 k y).trans h)⟩
noncomputable def F17_1 (k : Nat) (x1 : Int) : Option Int :=
some 0
def A17_1 : CTpl := ⟨[.c (.pointer none), .i .u32], []⟩
def h17_1 : List HTy := [.ti]
def R17_1 : List RTpl := [⟨.i .i64, [], [.ti]⟩]
def n17_1 : An := .nd
theorem e17_1 (k : Nat) (y : Tup h17_1) : exec (P := Try.prog) D (lk rowsL) [] k (bodyOf Try.f17) n17_1 (fnE Try.f17 A17_1 [] (inOf A17_1 (ofTup h17_1 y))) (fnSt [] (inOf A17_1 (ofTup h17_1 y))) (leafR D (fnE Try.f17 A17_1 [] (inOf A17_1 (ofTup h17_1 y))) Try.f17.results.toList (R17_1.map (·.h)) R17_1) = F17_1 k y := by kernel_rfl
noncomputable def C17_1 (k : Nat) : Con Try.prog := ⟨17, Try.f17, Try.func17, by kernel_rfl, by kernel_rfl, A17_1, h17_1, [], R17_1, fun y => F17_1 k y, fun y r h => con_ok good mixed (c := bodyOf Try.f17) Try.func17 (by kernel_rfl) n17_1 y ((e17_1 k y).trans h)⟩
noncomputable def F15_1 (k : Nat) : Option Int :=
some 0
def A15_1 : CTpl := ⟨[.c (.pointer none)], []⟩
def h15_1 : List HTy := []
def R15_1 : List RTpl := [⟨.i .i64, [], [.ti]⟩]
def n15_1 : An := .nd
theorem e15_1 (k : Nat) (y : Tup h15_1) : exec (P := Try.prog) D (lk rowsL) [] k (bodyOf Try.f15) n15_1 (fnE Try.f15 A15_1 [] (inOf A15_1 (ofTup h15_1 y))) (fnSt [] (inOf A15_1 (ofTup h15_1 y))) (leafR D (fnE Try.f15 A15_1 [] (inOf A15_1 (ofTup h15_1 y))) Try.f15.results.toList (R15_1.map (·.h)) R15_1) = F15_1 k := by kernel_rfl
noncomputable def C15_1 (k : Nat) : Con Try.prog := ⟨15, Try.f15, Try.func15, by kernel_rfl, by kernel_rfl, A15_1, h15_1, [], R15_1, fun y => F15_1 k, fun y r h => con_ok good mixed (c := bodyOf Try.f15) Try.func15 (by kernel_rfl) n15_1 y ((e15_1 k y).trans h)⟩
noncomputable def F16_1 (k : Nat) : Option Int :=
some 0
def A16_1 : CTpl := ⟨[.c (.pointer none)], []⟩
def h16_1 : List HTy := []
def R16_1 : List RTpl := [⟨.i .u32, [], [.ti]⟩]
def n16_1 : An := .nd
theorem e16_1 (k : Nat) (y : Tup h16_1) : exec (P := Try.prog) D (lk rowsL) [] k (bodyOf Try.f16) n16_1 (fnE Try.f16 A16_1 [] (inOf A16_1 (ofTup h16_1 y))) (fnSt [] (inOf A16_1 (ofTup h16_1 y))) (leafR D (fnE Try.f16 A16_1 [] (inOf A16_1 (ofTup h16_1 y))) Try.f16.results.toList (R16_1.map (·.h)) R16_1) = F16_1 k := by kernel_rfl
noncomputable def C16_1 (k : Nat) : Con Try.prog := ⟨16, Try.f16, Try.func16, by kernel_rfl, by kernel_rfl, A16_1, h16_1, [], R16_1, fun y => F16_1 k, fun y r h => con_ok good mixed (c := bodyOf Try.f16) Try.func16 (by kernel_rfl) n16_1 y ((e16_1 k y).trans h)⟩
noncomputable def F7 (k : Nat) (x1 : Int) (x2 : Int) : Option Bool :=
(F19 k x2).bind fun y2 => 
(F9 k).bind fun y3 => 
cond y3 (
cond (!y2.2.2) (
(F14_1 k 1 0 [(0, 0)]).bind fun y4 => 
cond (y4 == 1) (
(F12_1 k x1).bind fun y5 => 
(F17_1 k x2).bind fun y6 => 
cond (y6 == 0) (
(F15_1 k).bind fun y7 => 
cond (y7 == 0) (
(F16_1 k).bind fun y8 => 
some (y8 == 0)) (
some false)) (
some false)) (
some false)) (
some false)) (
some false)
def A7 : CTpl := ⟨[.i .i64, .i .u32], []⟩
def h7 : List HTy := [.ti, .ti]
def R7 : List RTpl := [⟨.b, [], [.tb]⟩]
def n7 : An := .sq (.nd) (.sq (.nd) (.sq (.nd) (.sq (.fr [(10, 22)]) (.nd))))
theorem e7 (k : Nat) (y : Tup h7) : exec (P := Try.prog) D (lk rowsL) [C19 k, C9 k, C14_1 k, C12_1 k, C17_1 k, C15_1 k, C16_1 k] k (bodyOf Try.f7) n7 (fnE Try.f7 A7 [] (inOf A7 (ofTup h7 y))) (fnSt [] (inOf A7 (ofTup h7 y))) (leafR D (fnE Try.f7 A7 [] (inOf A7 (ofTup h7 y))) Try.f7.results.toList (R7.map (·.h)) R7) = F7 k y.1 y.2 := by kernel_rfl
noncomputable def C7 (k : Nat) : Con Try.prog := ⟨7, Try.f7, Try.func7, by kernel_rfl, by kernel_rfl, A7, h7, [], R7, fun y => F7 k y.1 y.2, fun y r h => con_ok good mixed (c := bodyOf Try.f7) Try.func7 (by kernel_rfl) n7 y ((e7 k y).trans h)⟩
noncomputable def F4 (k : Nat) (x1 : Int) (x2 : Int) (x3 : (List (Int × Int))) : Option Bool :=
(F13 k).bind fun y2 => 
(((F9 k).bind fun y6 => 
cond (!y6) (
some true) (
some false) : Option Bool)).bind fun y7 => 
cond y7 (
some false) (
cond (decide (20 < (x3.length : Int))) (
some true) (
(F14 k 0 x2 x3 y2.1 y2.2).bind fun y9 => 
(F14 k x1 x2 ([] : List (Int × Int)) y9.2.1 y9.2.2).bind fun y11 => 
(F14 k x1 x2 x3 y11.2.1 y11.2.2).bind fun y13 => 
(F14 k x1 x2 x3 y13.2.1 y13.2.2).bind fun y15 => 
((cond (x1 == 0) (
some true) (
some ((x3.length : Int) == 0)) : Option Bool)).bind fun y19 => 
cond y19 (
cond (y9.1 == 1) (
cond (y11.1 == 1) (
cond (y13.1 == 1) (
cond (y15.1 == 1) (
(F15 k y15.2.1 y15.2.2).bind fun y20 => 
cond (y20 == 0) (
(F16 k y15.2.1 y15.2.2).bind fun y21 => 
some (y21 == 0)) (
some false)) (
some false)) (
some false)) (
some false)) (
some false)) (
cond (y9.1 == 1) (
cond (y11.1 == 1) (
cond (y13.1 == 0) (
cond (y15.1 == 7) (
(F15 k y15.2.1 y15.2.2).bind fun y22 => 
cond (y22 == 1) (
(F16 k y15.2.1 y15.2.2).bind fun y23 => 
some (y23 == x1)) (
some false)) (
some false)) (
some false)) (
some false)) (
some false))))
def A4 : CTpl := ⟨[.ag [.i .u32, .i .u32, .fz .u (.int .i64 (.int .i64 .nil))]], []⟩
def h4 : List HTy := [.ti, .ti, .tl (.int .i64 (.int .i64 .nil))]
def R4 : List RTpl := [⟨.b, [], [.tb]⟩]
def n4 : An := .sq (.nd) (.sq (.nd) (.sq (.jn [1, 3] [1, 400800, 400801] [(0, ⟨[(14, .b)], []⟩)] [[.tb]] (.nd) (.nd)) (.sq (.nd) (.sq (.nd) (.sq (.nd) (.sq (.nd) (.sq (.nd) (.sq (.jn [1, 3, 4, 5, 6, 7] [1, 400800, 403800] [(0, ⟨[(47, .b)], []⟩)] [[.tb]] (.nd) (.nd)) (.sq (.mk [] [0, 1, 3, 7, 15, 31, 63, 127, 255, 511, 1023, 2047, 4095, 8191, 16383, 32767, 65535, 131071, 262143, 524287, 1048575, 2097151, 1048575, 5242879, 16777215, 33554431, 67108863]) (.nd))))))))))
theorem e4 (k : Nat) (y : Tup h4) : exec (P := Try.prog) D (lk rowsL) [C13 k, C9 k, C14 k, C15 k, C16 k] k (bodyOf Try.f4) n4 (fnE Try.f4 A4 [] (inOf A4 (ofTup h4 y))) (fnSt [] (inOf A4 (ofTup h4 y))) (leafR D (fnE Try.f4 A4 [] (inOf A4 (ofTup h4 y))) Try.f4.results.toList (R4.map (·.h)) R4) = F4 k y.1 y.2.1 y.2.2 := by kernel_rfl
noncomputable def C4 (k : Nat) : Con Try.prog := ⟨4, Try.f4, Try.func4, by kernel_rfl, by kernel_rfl, A4, h4, [], R4, fun y => F4 k y.1 y.2.1 y.2.2, fun y r h => con_ok good mixed (c := bodyOf Try.f4) Try.func4 (by kernel_rfl) n4 y ((e4 k y).trans h)⟩
noncomputable def F10 (k : Nat) (x1 : Int) (x2 : Int) : Option Int :=
grd (x2 != 0) <|
((cond (decide ((x1.tmod x2) < 0)) (
some (IntKind.wrap .i64 ((x1.tmod x2) + x2))) (
some (x1.tmod x2)) : Option Int)).bind fun y1 => 
some y1
def A10 : CTpl := ⟨[.i .i64, .i .i64], []⟩
def h10 : List HTy := [.ti, .ti]
def R10 : List RTpl := [⟨.i .i64, [], [.ti]⟩]
def n10 : An := .sq (.nd) (.sq (.nd) (.jn [] [] [(0, ⟨[(0, .i .i64)], []⟩)] [[.ti]] (.nd) (.nd)))
theorem e10 (k : Nat) (y : Tup h10) : exec (P := Try.prog) D (lk rowsL) [] k (bodyOf Try.f10) n10 (fnE Try.f10 A10 [] (inOf A10 (ofTup h10 y))) (fnSt [] (inOf A10 (ofTup h10 y))) (leafR D (fnE Try.f10 A10 [] (inOf A10 (ofTup h10 y))) Try.f10.results.toList (R10.map (·.h)) R10) = F10 k y.1 y.2 := by kernel_rfl
noncomputable def C10 (k : Nat) : Con Try.prog := ⟨10, Try.f10, Try.func10, by kernel_rfl, by kernel_rfl, A10, h10, [], R10, fun y => F10 k y.1 y.2, fun y r h => con_ok good mixed (c := bodyOf Try.f10) Try.func10 (by kernel_rfl) n10 y ((e10 k y).trans h)⟩
noncomputable def L8_31 (k : Nat) (x1 : (List (List Int))) (z173 : (Int × Int × (List (Int × Int × (List (Int × Int)))))) (z175 : (Int × (List (Int × Int)))) : Option ((Int × (List (Int × Int))) ⊕ (List (Int × Int))) :=
(((ix x1 z173.1).bind fun a176 =>
cond (decide (z175.1 < (a176.length : Int))) (
some (decide (z175.1 < 5))) (
some false) : Option Bool)).bind fun y177 => 
cond y177 (
(ix x1 z173.1).bind fun a178 =>
(ix a178 z175.1).bind fun a179 =>
(F10 k a179 4).bind fun y180 => 
grd (decide ((z175.2.length + [(y180, z175.1)].length) * 16 ≤ 140737488355328)) <|
some (.inl ((IntKind.wrap .i64 (z175.1 + 1)), (z175.2 ++ [(y180, z175.1)])))) (
some (.inr z175.2))
noncomputable def L8_16 (k : Nat) (x1 : (List (List Int))) (z173 : (Int × Int × (List (Int × Int × (List (Int × Int)))))) : Option ((Int × Int × (List (Int × Int × (List (Int × Int))))) ⊕ ((Int × (List (Int × Int × (List (Int × Int))))) ⊕ (Int × (List (Int × Int × (List (Int × Int))))))) :=
((cond (decide (z173.1 < (x1.length : Int))) (
some (decide (z173.1 < 20))) (
some false) : Option Bool)).bind fun y174 => 
cond y174 (
(loopN (L8_31 k x1 z173) k (0, ([] : List (Int × Int)))).bind fun y181 => 
((cond ((y181.length : Int) == 0) (
some [(0, z173.1)]) (
some y181) : Option (List (Int × Int)))).bind fun y182 => 
(F14 k (IntKind.wrap .u32 (IntKind.wrap .i64 (z173.1 + 1))) 1 y182 z173.2.1 z173.2.2).bind fun y183 => 
cond (y183.1 != 0) (
some (.inr (.inl (y183.2.1, y183.2.2)))) (
some (.inl ((IntKind.wrap .i64 (z173.1 + 1)), y183.2.1, y183.2.2)))) (
some (.inr (.inr (z173.2.1, z173.2.2))))
noncomputable def F8 (k : Nat) (x1 : (List (List Int))) : Option (Unit ⊕ (Int × (List (Int × Int × (List (Int × Int)))))) :=
(F13 k).bind fun y2 => 
(loopN (L8_16 k x1) k (0, y2.1, y2.2)).bind fun y184 => 
sel (fun y185 =>
some (.inl ())) (fun y186 =>
some (.inr (y186.1, y186.2))) y184
def A8 : CTpl := ⟨[.fz .u (.sl (.int .i64 .nil) .nil)], []⟩
def h8 : List HTy := [.tl (.sl (.int .i64 .nil) .nil)]
def R8 : List RTpl := [⟨.c (.pointer none), [], []⟩, ⟨.pt 500000 0, [(500000, .bx 59 [.sl .u 500001, .i .u32]), (500001, .ar 35 (.int .u32 (.int .u32 (.sl (.int .i64 (.int .i64 .nil)) .nil))))], [.ti, .tl (.int .u32 (.int .u32 (.sl (.int .i64 (.int .i64 .nil)) .nil)))]⟩]
def n8 : An := .sq (.nd) (.sq (.nd) (.sq (.nd) (.sq (.sq (.nd) (.lp [0, 3] [] ⟨[(4, .i .i64)], [(400700, .bx 59 [.sl .u 300800, .i .u32]), (300800, .ar 35 (.int .u32 (.int .u32 (.sl (.int .i64 (.int .i64 .nil)) .nil))))]⟩ [.ti, .ti, .tl (.int .u32 (.int .u32 (.sl (.int .i64 (.int .i64 .nil)) .nil)))] [(1, ⟨[(2, .c (.pointer none))], [(400700, .bx 59 [.sl .u 300825, .i .u32]), (300825, .ar 35 (.int .u32 (.int .u32 (.sl (.int .i64 (.int .i64 .nil)) .nil))))]⟩), (2, ⟨[], [(400700, .bx 59 [.sl .u 300835, .i .u32]), (300835, .ar 35 (.int .u32 (.int .u32 (.sl (.int .i64 (.int .i64 .nil)) .nil))))]⟩)] [[.ti, .tl (.int .u32 (.int .u32 (.sl (.int .i64 (.int .i64 .nil)) .nil)))], [.ti, .tl (.int .u32 (.int .u32 (.sl (.int .i64 (.int .i64 .nil)) .nil)))]] (.sq (.jn [4] [300800, 400700] [(0, ⟨[(17, .b)], []⟩)] [[.tb]] (.nd) (.nd)) (.sq (.sq (.nd) (.sq (.sq (.nd) (.lp [4] [300800, 400700] ⟨[(5, .sl .n 301550), (6, .i .i64)], [(301550, .ar 50 (.int .i64 (.int .i64 .nil)))]⟩ [.ti, .tl (.int .i64 (.int .i64 .nil))] [(4, ⟨[(5, .sl .n 301575)], [(301575, .ar 50 (.int .i64 (.int .i64 .nil)))]⟩)] [[.tl (.int .i64 (.int .i64 .nil))]] (.sq (.jn [5, 6] [301550] [(0, ⟨[(30, .b)], []⟩)] [[.tb]] (.nd) (.nd)) (.nd)))) (.jn [4] [300800, 400700] [(0, ⟨[(5, .sl .u 302100)], [(302100, .ar 50 (.int .i64 (.int .i64 .nil)))]⟩)] [[.tl (.int .i64 (.int .i64 .nil))]] (.nd) (.sq (.fr [(6, 302100)]) (.nd))))) (.nd))))) (.nd))))
theorem e8 (k : Nat) (y : Tup h8) : exec (P := Try.prog) D (lk rowsL) [C13 k, C10 k, C14 k] k (bodyOf Try.f8) n8 (fnE Try.f8 A8 [] (inOf A8 (ofTup h8 y))) (fnSt [] (inOf A8 (ofTup h8 y))) (leafR D (fnE Try.f8 A8 [] (inOf A8 (ofTup h8 y))) Try.f8.results.toList (R8.map (·.h)) R8) = F8 k y := by kernel_rfl
noncomputable def C8 (k : Nat) : Con Try.prog := ⟨8, Try.f8, Try.func8, by kernel_rfl, by kernel_rfl, A8, h8, [], R8, fun y => F8 k y, fun y r h => con_ok good mixed (c := bodyOf Try.f8) Try.func8 (by kernel_rfl) n8 y ((e8 k y).trans h)⟩
noncomputable def L11_14 (k : Nat) (x1 : (List Int)) (x2 : (List Int)) (z20 : Int) : Option (Int ⊕ (Unit ⊕ Unit)) :=
cond (decide (z20 < (x1.length : Int))) (
(ix x1 z20).bind fun a21 =>
(ix x2 z20).bind fun a22 =>
(x2[z20.toNat]?).bind fun a23 =>
cond (a21 != a23) (
some (.inr (.inl ()))) (
some (.inl (IntKind.wrap .i64 (z20 + 1))))) (
some (.inr (.inr ())))
noncomputable def F11 (k : Nat) (x1 : (List Int)) (x2 : (List Int)) : Option Bool :=
cond ((x1.length : Int) != (x2.length : Int)) (
some false) (
(loopN (L11_14 k x1 x2) k 0).bind fun y24 => 
sel (fun y25 =>
some false) (fun y26 =>
some true) y24)
def A11 : CTpl := ⟨[.fz .u (.int .u32 .nil), .sl .u 1000000], [(1000000, .ar 29 (.int .u32 .nil))]⟩
def h11 : List HTy := [.tl (.int .u32 .nil), .tl (.int .u32 .nil)]
def R11 : List RTpl := [⟨.b, [], [.tb]⟩]
def n11 : An := .sq (.nd) (.sq (.nd) (.sq (.sq (.nd) (.lp [0, 1] [] ⟨[(5, .i .i64)], []⟩ [.ti] [(1, ⟨[(4, .lb false)], []⟩), (2, ⟨[], []⟩)] [[], []] (.sq (.nd) (.sq (.sq (.mk [] [0, 0, 3, 7, 0, 0, 48, 112, 255]) (.nd)) (.nd))))) (.nd)))
theorem e11 (k : Nat) (y : Tup h11) : exec (P := Try.prog) D (lk rowsL) [] k (bodyOf Try.f11) n11 (fnE Try.f11 A11 [1000000] (inOf A11 (ofTup h11 y))) (fnSt [1000000] (inOf A11 (ofTup h11 y))) (leafR D (fnE Try.f11 A11 [1000000] (inOf A11 (ofTup h11 y))) Try.f11.results.toList (R11.map (·.h)) R11) = F11 k y.1 y.2 := by kernel_rfl
noncomputable def C11 (k : Nat) : Con Try.prog := ⟨11, Try.f11, Try.func11, by kernel_rfl, by kernel_rfl, A11, h11, [1000000], R11, fun y => F11 k y.1 y.2, fun y r h => con_ok good mixed (c := bodyOf Try.f11) Try.func11 (by kernel_rfl) n11 y ((e11 k y).trans h)⟩
noncomputable def L11_1_14 (k : Nat) (x1 : (List Int)) (x2 : (List Int)) (z15 : Int) : Option (Int ⊕ (Unit ⊕ Unit)) :=
cond (decide (z15 < (x1.length : Int))) (
(ix x1 z15).bind fun a16 =>
(ix x2 z15).bind fun a17 =>
cond (a16 != a17) (
some (.inr (.inl ()))) (
some (.inl (IntKind.wrap .i64 (z15 + 1))))) (
some (.inr (.inr ())))
noncomputable def F11_1 (k : Nat) (x1 : (List Int)) (x2 : (List Int)) : Option Bool :=
cond ((x1.length : Int) != (x2.length : Int)) (
some false) (
(loopN (L11_1_14 k x1 x2) k 0).bind fun y18 => 
sel (fun y19 =>
some false) (fun y20 =>
some true) y18)
def A11_1 : CTpl := ⟨[.fz .u (.int .u32 .nil), .fz .u (.int .u32 .nil)], []⟩
def h11_1 : List HTy := [.tl (.int .u32 .nil), .tl (.int .u32 .nil)]
def R11_1 : List RTpl := [⟨.b, [], [.tb]⟩]
def n11_1 : An := .sq (.nd) (.sq (.nd) (.sq (.sq (.nd) (.lp [0, 1] [] ⟨[(5, .i .i64)], []⟩ [.ti] [(1, ⟨[(4, .lb false)], []⟩), (2, ⟨[], []⟩)] [[], []] (.sq (.nd) (.sq (.sq (.mk [] [0, 0, 3, 7, 0, 0, 48, 112, 255]) (.nd)) (.nd))))) (.nd)))
theorem e11_1 (k : Nat) (y : Tup h11_1) : exec (P := Try.prog) D (lk rowsL) [] k (bodyOf Try.f11) n11_1 (fnE Try.f11 A11_1 [] (inOf A11_1 (ofTup h11_1 y))) (fnSt [] (inOf A11_1 (ofTup h11_1 y))) (leafR D (fnE Try.f11 A11_1 [] (inOf A11_1 (ofTup h11_1 y))) Try.f11.results.toList (R11_1.map (·.h)) R11_1) = F11_1 k y.1 y.2 := by kernel_rfl
noncomputable def C11_1 (k : Nat) : Con Try.prog := ⟨11, Try.f11, Try.func11, by kernel_rfl, by kernel_rfl, A11_1, h11_1, [], R11_1, fun y => F11_1 k y.1 y.2, fun y r h => con_ok good mixed (c := bodyOf Try.f11) Try.func11 (by kernel_rfl) n11_1 y ((e11_1 k y).trans h)⟩
noncomputable def L3_35 (k : Nat) (x1 : (List (List Int))) (y21 : Int) (z190 : (Int × (List Int))) (z194 : (Bool × Int)) : Option ((Bool × Int) ⊕ Bool) :=
(((ix x1 z190.1).bind fun a195 =>
cond (decide (z194.2 < (a195.length : Int))) (
some (decide (z194.2 < 5))) (
some false) : Option Bool)).bind fun y196 => 
cond y196 (
((cond z194.1 (
some true) (
(ix x1 z190.1).bind fun a197 =>
(ix a197 z194.2).bind fun a198 =>
(F10 k a198 4).bind fun y199 => 
some (y199 == (IntKind.wrap .i64 (y21 - 1)))) : Option Bool)).bind fun y200 => 
some (.inl (y200, (IntKind.wrap .i64 (z194.2 + 1))))) (
some (.inr z194.1))
noncomputable def L3_20 (k : Nat) (x1 : (List (List Int))) (y21 : Int) (z190 : (Int × (List Int))) : Option ((Int × (List Int)) ⊕ (List Int)) :=
((cond (decide (z190.1 < (x1.length : Int))) (
some (decide (z190.1 < 20))) (
some false) : Option Bool)).bind fun y191 => 
cond y191 (
(((((ix x1 z190.1).bind fun a192 =>
cond ((a192.length : Int) == 0) (
some ((IntKind.wrap .i64 (y21 - 1)) == 0)) (
some false) : Option Bool)).bind fun y193 => 
(loopN (L3_35 k x1 y21 z190) k (y193, 0)).bind fun y201 => 
cond y201 (
grd (decide ((z190.2.length + [(IntKind.wrap .u32 (IntKind.wrap .i64 (z190.1 + 1)))].length) * 4 ≤ 140737488355328)) <|
some (z190.2 ++ [(IntKind.wrap .u32 (IntKind.wrap .i64 (z190.1 + 1)))])) (
some z190.2) : Option (List Int))).bind fun y202 => 
some (.inl ((IntKind.wrap .i64 (z190.1 + 1)), y202))) (
some (.inr z190.2))
noncomputable def F3 (k : Nat) (x1 : (List (List Int))) (x2 : Int) : Option Bool :=
(((F8 k x1).bind fun y4 => 
sel (fun y5 =>
some (.inl ())) (fun y6 =>
some (.inr (y6.1, y6.2))) y4 : Option (Unit ⊕ (Int × (List (Int × Int × (List (Int × Int)))))))).bind fun y7 => 
sel (fun y8 =>
(((F9 k).bind fun y13 => 
cond (!y13) (
some ()) (
some ()) : Option Unit)).bind fun y14 => 
some false) (fun y9 =>
(((F9 k).bind fun y18 => 
cond (!y18) (
some true) (
some false) : Option Bool)).bind fun y19 => 
cond y19 (
some false) (
(F10 k x2 6).bind fun y21 => 
(loopN (L3_20 k x1 y21) k (0, ([] : List Int))).bind fun y203 => 
(F12 k (IntKind.wrap .i64 (y21 - 1)) y9.1 y9.2).bind fun y204 => 
(F11_1 k y204 y203).bind fun y205 => 
some y205)) y7
def A3 : CTpl := ⟨[.fz .u (.sl (.int .i64 .nil) .nil), .i .i64], []⟩
def h3 : List HTy := [.tl (.sl (.int .i64 .nil) .nil), .ti]
def R3 : List RTpl := [⟨.b, [], [.tb]⟩]
def n3 : An := .sq (.nd) (.jn [0, 1] [] [(0, ⟨[(5, .c (.pointer none))], []⟩), (0, ⟨[(5, .pt 300110 0)], [(300110, .bx 59 [.sl .u 300111, .i .u32]), (300111, .ar 35 (.int .u32 (.int .u32 (.sl (.int .i64 (.int .i64 .nil)) .nil))))]⟩)] [[], [.ti, .tl (.int .u32 (.int .u32 (.sl (.int .i64 (.int .i64 .nil)) .nil)))]] (.nd) (.sq (.al 5 (.jn [0, 1, 5] [] [(0, ⟨[(17, .lb true)], []⟩)] [[]] (.nd) (.nd)) (.jn [0, 1, 5] [300110, 300111] [(0, ⟨[(17, .b)], []⟩)] [[.tb]] (.nd) (.nd))) (.sq (.nd) (.sq (.nd) (.sq (.sq (.nd) (.lp [0, 1, 5] [300110, 300111] ⟨[(6, .sl .n 301000), (7, .i .i64)], [(301000, .ar 29 (.int .u32 .nil))]⟩ [.ti, .tl (.int .u32 .nil)] [(2, ⟨[(6, .sl .n 301025)], [(301025, .ar 29 (.int .u32 .nil))]⟩)] [[.tl (.int .u32 .nil)]] (.sq (.jn [6, 7] [301000] [(0, ⟨[(28, .b)], []⟩)] [[.tb]] (.nd) (.nd)) (.jn [7] [] [(0, ⟨[(6, .sl .n 301350)], [(301350, .ar 29 (.int .u32 .nil))]⟩)] [[.tl (.int .u32 .nil)]] (.jn [6] [301000] [(0, ⟨[(8, .b)], []⟩)] [[.tb]] (.nd) (.sq (.sq (.nd) (.lp [6] [301000] ⟨[(8, .b), (9, .i .i64)], []⟩ [.tb, .ti] [(4, ⟨[(8, .b)], []⟩)] [[.tb]] (.sq (.jn [8, 9] [] [(0, ⟨[(51, .b)], []⟩)] [[.tb]] (.nd) (.nd)) (.jn [9] [] [(0, ⟨[(8, .b)], []⟩)] [[.tb]] (.nd) (.nd))))) (.nd))) (.nd))))) (.sq (.fr [(4, 301025), (4, 407600)]) (.nd)))))))
theorem e3 (k : Nat) (y : Tup h3) : exec (P := Try.prog) D (lk rowsL) [C8 k, C9 k, C10 k, C12 k, C11_1 k] k (bodyOf Try.f3) n3 (fnE Try.f3 A3 [] (inOf A3 (ofTup h3 y))) (fnSt [] (inOf A3 (ofTup h3 y))) (leafR D (fnE Try.f3 A3 [] (inOf A3 (ofTup h3 y))) Try.f3.results.toList (R3.map (·.h)) R3) = F3 k y.1 y.2 := by kernel_rfl
noncomputable def C3 (k : Nat) : Con Try.prog := ⟨3, Try.f3, Try.func3, by kernel_rfl, by kernel_rfl, A3, h3, [], R3, fun y => F3 k y.1 y.2, fun y r h => con_ok good mixed (c := bodyOf Try.f3) Try.func3 (by kernel_rfl) n3 y ((e3 k y).trans h)⟩
noncomputable def L19_1_9 (k : Nat) (x1 : Int) (x3 : (List (Int × Int × (List (Int × Int))))) (z23 : Int) : Option (Int ⊕ ((Int × Int × (List (Int × Int))) ⊕ Unit)) :=
cond (decide (z23 < (x3.length : Int))) (
(ix x3 z23).bind fun a24 =>
(x3[z23.toNat]?).bind fun a25 =>
cond (a25.1 == x1) (
(F26 k a25.1 a25.2.1 a25.2.2).bind fun y26 => 
some (.inr (.inl (y26.1, y26.2.1, y26.2.2)))) (
some (.inl (IntKind.wrap .i64 (z23 + 1))))) (
some (.inr (.inr ())))
noncomputable def F19_1 (k : Nat) (x1 : Int) (x2 : Int) (x3 : (List (Int × Int × (List (Int × Int))))) : Option (Int × Int × (List (Int × Int)) × Bool) :=
(loopN (L19_1_9 k x1 x3) k 0).bind fun y27 => 
sel (fun y28 =>
some (y28.1, y28.2.1, y28.2.2, true)) (fun y29 =>
some (0, 0, ([] : List (Int × Int)), false)) y27
def A19_1 : CTpl := ⟨[.pt 1000000 0, .i .u32], [(1000000, .bx 59 [.sl .u 1000001, .i .u32]), (1000001, .ar 35 (.int .u32 (.int .u32 (.sl (.int .i64 (.int .i64 .nil)) .nil))))]⟩
def h19_1 : List HTy := [.ti, .ti, .tl (.int .u32 (.int .u32 (.sl (.int .i64 (.int .i64 .nil)) .nil)))]
def R19_1 : List RTpl := [⟨.tp [.ag [.i .u32, .i .u32, .fz .u (.int .i64 (.int .i64 .nil))], .b], [], [.ti, .ti, .tl (.int .i64 (.int .i64 .nil)), .tb]⟩]
def n19_1 : An := .sq (.nd) (.sq (.sq (.nd) (.sq (.sq (.nd) (.lp [1, 4, 13, 14] [] ⟨[(15, .i .i64)], [(4, .bx 35 [.li .u32 0, .li .u32 0, .c (.slice none 0 0)])]⟩ [.ti] [(1, ⟨[(5, .lb true)], [(4, .bx 35 [.i .u32, .i .u32, .fz .u (.int .i64 (.int .i64 .nil))])]⟩), (2, ⟨[], [(4, .bx 35 [.li .u32 0, .li .u32 0, .c (.slice none 0 0)])]⟩)] [[.ti, .ti, .tl (.int .i64 (.int .i64 .nil))], []] (.nd))) (.nd))) (.nd))
theorem e19_1 (k : Nat) (y : Tup h19_1) : exec (P := Try.prog) D (lk rowsL) [C26 k] k (bodyOf Try.f19) n19_1 (fnE Try.f19 A19_1 [1000000, 1000001] (inOf A19_1 (ofTup h19_1 y))) (fnSt [1000000, 1000001] (inOf A19_1 (ofTup h19_1 y))) (leafR D (fnE Try.f19 A19_1 [1000000, 1000001] (inOf A19_1 (ofTup h19_1 y))) Try.f19.results.toList (R19_1.map (·.h)) R19_1) = F19_1 k y.1 y.2.1 y.2.2 := by kernel_rfl
noncomputable def C19_1 (k : Nat) : Con Try.prog := ⟨19, Try.f19, Try.func19, by kernel_rfl, by kernel_rfl, A19_1, h19_1, [1000000, 1000001], R19_1, fun y => F19_1 k y.1 y.2.1 y.2.2, fun y r h => con_ok good mixed (c := bodyOf Try.f19) Try.func19 (by kernel_rfl) n19_1 y ((e19_1 k y).trans h)⟩
noncomputable def L6_22 (k : Nat) (x1 : (List (List Int))) (x2 : Int) (y21 : (Int × Int × (List (Int × Int × (List (Int × Int)))))) (z38 : Int) : Option (Int ⊕ (Unit ⊕ Unit)) :=
cond (decide (z38 ≤ (mn (x1.length : Int) 20))) (
(F19_1 k (IntKind.wrap .u32 z38) y21.2.1 y21.2.2).bind fun y39 => 
((cond (!(y39.2.2.2 == (decide ((x2.tmod 25) < (IntKind.wrap .u32 z38))))) (
some true) (
cond y39.2.2.2 (
cond (y39.1 != (IntKind.wrap .u32 z38)) (
some true) (
cond (!y39.2.2.2) (
some (decide (0 < (y39.2.2.1.length : Int)))) (
some false))) (
cond (!y39.2.2.2) (
some (decide (0 < (y39.2.2.1.length : Int)))) (
some false))) : Option Bool)).bind fun y40 => 
cond y40 (
some (.inr (.inl ()))) (
some (.inl (IntKind.wrap .i64 (z38 + 1))))) (
some (.inr (.inr ())))
noncomputable def F6 (k : Nat) (x1 : (List (List Int))) (x2 : Int) (x3 : Int) : Option Bool :=
(((F8 k x1).bind fun y4 => 
sel (fun y5 =>
some (.inl ())) (fun y6 =>
some (.inr (y6.1, y6.2))) y4 : Option (Unit ⊕ (Int × (List (Int × Int × (List (Int × Int)))))))).bind fun y7 => 
sel (fun y8 =>
(((F9 k).bind fun y13 => 
cond (!y13) (
some ()) (
some ()) : Option Unit)).bind fun y14 => 
some false) (fun y9 =>
(((F9 k).bind fun y18 => 
cond (!y18) (
some true) (
some false) : Option Bool)).bind fun y19 => 
cond y19 (
some false) (
(F17 k (x2.tmod 25) y9.1 y9.2).bind fun y21 => 
(loopN (L6_22 k x1 x2 y21) k 1).bind fun y41 => 
sel (fun y42 =>
some false) (fun y43 =>
grd ((IntKind.wrap .u32 (IntKind.wrap .i64 ((mn (x1.length : Int) 20) + 1))) != 0) <|
(F14 k (IntKind.wrap .u32 (1 + (x3.tmod (IntKind.wrap .u32 (IntKind.wrap .i64 ((mn (x1.length : Int) 20) + 1)))))) 1 [(1, 1)] y21.2.1 y21.2.2).bind fun y45 => 
cond (y21.1 == (mn (IntKind.wrap .i64 (x2.tmod 25)) (mn (x1.length : Int) 20))) (
grd ((IntKind.wrap .u32 (IntKind.wrap .i64 ((mn (x1.length : Int) 20) + 1))) != 0) <|
cond ((y45.1 == 0) == ((x3.tmod (IntKind.wrap .u32 (IntKind.wrap .i64 ((mn (x1.length : Int) 20) + 1)))) == (IntKind.wrap .u32 (mn (x1.length : Int) 20)))) (
cond (y45.1 == 0) (
some true) (
cond (y45.1 == 7) (
(F16 k y45.2.1 y45.2.2).bind fun y46 => 
some (y46 == (IntKind.wrap .u32 (mn (x1.length : Int) 20)))) (
some false))) (
some false)) (
some false)) y41)) y7
def A6 : CTpl := ⟨[.fz .u (.sl (.int .i64 .nil) .nil), .i .u32, .i .u32], []⟩
def h6 : List HTy := [.tl (.sl (.int .i64 .nil) .nil), .ti, .ti]
def R6 : List RTpl := [⟨.b, [], [.tb]⟩]
def n6 : An := .sq (.nd) (.jn [0, 1, 2] [] [(0, ⟨[(7, .c (.pointer none))], []⟩), (0, ⟨[(7, .pt 300110 0)], [(300110, .bx 59 [.sl .u 300111, .i .u32]), (300111, .ar 35 (.int .u32 (.int .u32 (.sl (.int .i64 (.int .i64 .nil)) .nil))))]⟩)] [[], [.ti, .tl (.int .u32 (.int .u32 (.sl (.int .i64 (.int .i64 .nil)) .nil)))]] (.nd) (.sq (.al 7 (.jn [0, 1, 2, 7] [] [(0, ⟨[(21, .lb true)], []⟩)] [[]] (.nd) (.nd)) (.jn [0, 1, 2, 7] [300110, 300111] [(0, ⟨[(21, .b)], []⟩)] [[.tb]] (.nd) (.nd))) (.sq (.nd) (.sq (.nd) (.sq (.nd) (.sq (.sq (.nd) (.lp [1, 2, 7, 8, 9] [300110, 402900] ⟨[(10, .i .i64)], []⟩ [.ti] [(1, ⟨[(6, .lb false)], []⟩), (2, ⟨[], []⟩)] [[], []] (.sq (.nd) (.sq (.sq (.nd) (.jn [10] [] [(0, ⟨[(67, .b)], []⟩)] [[.tb]] (.nd) (.nd))) (.nd))))) (.sq (.fr [(10, 76)]) (.nd))))))))
theorem e6 (k : Nat) (y : Tup h6) : exec (P := Try.prog) D (lk rowsL) [C8 k, C9 k, C17 k, C19_1 k, C14 k, C16 k] k (bodyOf Try.f6) n6 (fnE Try.f6 A6 [] (inOf A6 (ofTup h6 y))) (fnSt [] (inOf A6 (ofTup h6 y))) (leafR D (fnE Try.f6 A6 [] (inOf A6 (ofTup h6 y))) Try.f6.results.toList (R6.map (·.h)) R6) = F6 k y.1 y.2.1 y.2.2 := by kernel_rfl
noncomputable def C6 (k : Nat) : Con Try.prog := ⟨6, Try.f6, Try.func6, by kernel_rfl, by kernel_rfl, A6, h6, [], R6, fun y => F6 k y.1 y.2.1 y.2.2, fun y r h => con_ok good mixed (c := bodyOf Try.f6) Try.func6 (by kernel_rfl) n6 y ((e6 k y).trans h)⟩
noncomputable def L18_8 (k : Nat) (x1 : Int) (x3 : (List (Int × Int × (List (Int × Int))))) (z26 : (Int × (List (Int × Int × (List (Int × Int)))))) : Option ((Int × (List (Int × Int × (List (Int × Int))))) ⊕ (List (Int × Int × (List (Int × Int))))) :=
cond (decide (z26.1 < (x3.length : Int))) (
(((ix x3 z26.1).bind fun a27 =>
(x3[z26.1.toNat]?).bind fun a28 =>
cond (decide (x1 < a28.1)) (
(ix x3 z26.1).bind fun a29 =>
(x3[z26.1.toNat]?).bind fun a30 =>
grd (decide ((z26.2.length + [(a30.1, a30.2.1, a30.2.2)].length) * 32 ≤ 140737488355328)) <|
some (z26.2 ++ [(a30.1, a30.2.1, a30.2.2)])) (
some z26.2) : Option (List (Int × Int × (List (Int × Int)))))).bind fun y31 => 
some (.inl ((IntKind.wrap .i64 (z26.1 + 1)), y31))) (
some (.inr z26.2))
noncomputable def F18 (k : Nat) (x1 : Int) (x2 : Int) (x3 : (List (Int × Int × (List (Int × Int))))) : Option (Int × Int × (List (Int × Int × (List (Int × Int))))) :=
(loopN (L18_8 k x1 x3) k (0, ([] : List (Int × Int × (List (Int × Int)))))).bind fun y32 => 
some ((IntKind.wrap .i64 ((x3.length : Int) - (y32.length : Int))), x2, y32)
def A18 : CTpl := ⟨[.pt 1000000 0, .i .u32], [(1000000, .bx 46 [.sl .u 1000001, .i .u32]), (1000001, .ar 35 (.int .u32 (.int .u32 (.sl (.int .i64 (.int .i64 .nil)) .nil))))]⟩
def h18 : List HTy := [.ti, .ti, .tl (.int .u32 (.int .u32 (.sl (.int .i64 (.int .i64 .nil)) .nil)))]
def R18 : List RTpl := [⟨.i .i64, [(1000000, .bx 46 [.sl .u 500000, .i .u32]), (500000, .ar 35 (.int .u32 (.int .u32 (.sl (.int .i64 (.int .i64 .nil)) .nil))))], [.ti, .ti, .tl (.int .u32 (.int .u32 (.sl (.int .i64 (.int .i64 .nil)) .nil)))]⟩]
def n18 : An := .sq (.nd) (.sq (.nd) (.sq (.sq (.nd) (.lp [0, 1] [1000000] ⟨[(5, .sl .n 300400), (6, .i .i64)], [(300400, .ar 35 (.int .u32 (.int .u32 (.sl (.int .i64 (.int .i64 .nil)) .nil))))]⟩ [.ti, .tl (.int .u32 (.int .u32 (.sl (.int .i64 (.int .i64 .nil)) .nil)))] [(2, ⟨[(5, .sl .n 300425)], [(300425, .ar 35 (.int .u32 (.int .u32 (.sl (.int .i64 (.int .i64 .nil)) .nil))))]⟩)] [[.tl (.int .u32 (.int .u32 (.sl (.int .i64 (.int .i64 .nil)) .nil)))]] (.sq (.nd) (.jn [6] [] [(0, ⟨[(5, .sl .n 300750)], [(300750, .ar 35 (.int .u32 (.int .u32 (.sl (.int .i64 (.int .i64 .nil)) .nil))))]⟩)] [[.tl (.int .u32 (.int .u32 (.sl (.int .i64 (.int .i64 .nil)) .nil)))]] (.nd) (.nd))))) (.nd)))
theorem e18 (k : Nat) (y : Tup h18) : exec (P := Try.prog) D (lk rowsL) [] k (bodyOf Try.f18) n18 (fnE Try.f18 A18 [1000001] (inOf A18 (ofTup h18 y))) (fnSt [1000001] (inOf A18 (ofTup h18 y))) (leafR D (fnE Try.f18 A18 [1000001] (inOf A18 (ofTup h18 y))) Try.f18.results.toList (R18.map (·.h)) R18) = F18 k y.1 y.2.1 y.2.2 := by kernel_rfl
noncomputable def C18 (k : Nat) : Con Try.prog := ⟨18, Try.f18, Try.func18, by kernel_rfl, by kernel_rfl, A18, h18, [1000001], R18, fun y => F18 k y.1 y.2.1 y.2.2, fun y r h => con_ok good mixed (c := bodyOf Try.f18) Try.func18 (by kernel_rfl) n18 y ((e18 k y).trans h)⟩
noncomputable def L20_6 (k : Nat) (x1 : Int) (x3 : (List (Int × Int × (List (Int × Int))))) (z29 : Int) : Option (Int ⊕ ((Int × Int × (List (Int × Int))) ⊕ Unit)) :=
cond (decide (z29 < (x3.length : Int))) (
(ix x3 z29).bind fun a30 =>
(x3[z29.toNat]?).bind fun a31 =>
cond (a31.1 == x1) (
(ix x3 z29).bind fun a32 =>
(x3[z29.toNat]?).bind fun a33 =>
some (.inr (.inl (a33.1, a33.2.1, a33.2.2)))) (
some (.inl (IntKind.wrap .i64 (z29 + 1))))) (
some (.inr (.inr ())))
noncomputable def F20 (k : Nat) (x1 : Int) (x2 : Int) (x3 : (List (Int × Int × (List (Int × Int))))) : Option (Int × Int × (List (Int × Int)) × Bool) :=
(loopN (L20_6 k x1 x3) k 0).bind fun y34 => 
sel (fun y35 =>
some (y35.1, y35.2.1, y35.2.2, true)) (fun y36 =>
some (0, 0, ([] : List (Int × Int)), false)) y34
def A20 : CTpl := ⟨[.pt 1000000 0, .i .u32], [(1000000, .bx 46 [.sl .u 1000001, .i .u32]), (1000001, .ar 35 (.int .u32 (.int .u32 (.sl (.int .i64 (.int .i64 .nil)) .nil))))]⟩
def h20 : List HTy := [.ti, .ti, .tl (.int .u32 (.int .u32 (.sl (.int .i64 (.int .i64 .nil)) .nil)))]
def R20 : List RTpl := [⟨.tp [.ag [.i .u32, .i .u32, .fz .u (.int .i64 (.int .i64 .nil))], .b], [], [.ti, .ti, .tl (.int .i64 (.int .i64 .nil)), .tb]⟩]
def n20 : An := .sq (.nd) (.sq (.sq (.nd) (.lp [0, 1, 4] [] ⟨[(6, .i .i64)], [(4, .bx 35 [.li .u32 0, .li .u32 0, .c (.slice none 0 0)])]⟩ [.ti] [(1, ⟨[(5, .lb true)], [(4, .bx 35 [.i .u32, .i .u32, .fz .u (.int .i64 (.int .i64 .nil))])]⟩), (2, ⟨[], [(4, .bx 35 [.li .u32 0, .li .u32 0, .c (.slice none 0 0)])]⟩)] [[.ti, .ti, .tl (.int .i64 (.int .i64 .nil))], []] (.nd))) (.nd))
theorem e20 (k : Nat) (y : Tup h20) : exec (P := Try.prog) D (lk rowsL) [] k (bodyOf Try.f20) n20 (fnE Try.f20 A20 [1000000, 1000001] (inOf A20 (ofTup h20 y))) (fnSt [1000000, 1000001] (inOf A20 (ofTup h20 y))) (leafR D (fnE Try.f20 A20 [1000000, 1000001] (inOf A20 (ofTup h20 y))) Try.f20.results.toList (R20.map (·.h)) R20) = F20 k y.1 y.2.1 y.2.2 := by kernel_rfl
noncomputable def C20 (k : Nat) : Con Try.prog := ⟨20, Try.f20, Try.func20, by kernel_rfl, by kernel_rfl, A20, h20, [1000000, 1000001], R20, fun y => F20 k y.1 y.2.1 y.2.2, fun y r h => con_ok good mixed (c := bodyOf Try.f20) Try.func20 (by kernel_rfl) n20 y ((e20 k y).trans h)⟩
noncomputable def L28_14 (k : Nat) (x1 : (List (Int × Int))) (x2 : (List (Int × Int))) (z15 : Int) : Option (Int ⊕ (Unit ⊕ Unit)) :=
cond (decide (z15 < (x1.length : Int))) (
(ix x1 z15).bind fun a16 =>
(ix x2 z15).bind fun a17 =>
cond (!((a16.1 == a17.1) && ((a16.2 == a17.2) && true))) (
some (.inr (.inl ()))) (
some (.inl (IntKind.wrap .i64 (z15 + 1))))) (
some (.inr (.inr ())))
noncomputable def F28 (k : Nat) (x1 : (List (Int × Int))) (x2 : (List (Int × Int))) : Option Bool :=
cond ((x1.length : Int) != (x2.length : Int)) (
some false) (
(loopN (L28_14 k x1 x2) k 0).bind fun y18 => 
sel (fun y19 =>
some false) (fun y20 =>
some true) y18)
def A28 : CTpl := ⟨[.fz .u (.int .i64 (.int .i64 .nil)), .fz .u (.int .i64 (.int .i64 .nil))], []⟩
def h28 : List HTy := [.tl (.int .i64 (.int .i64 .nil)), .tl (.int .i64 (.int .i64 .nil))]
def R28 : List RTpl := [⟨.b, [], [.tb]⟩]
def n28 : An := .sq (.nd) (.sq (.nd) (.sq (.sq (.nd) (.lp [0, 1] [] ⟨[(5, .i .i64)], []⟩ [.ti] [(1, ⟨[(4, .lb false)], []⟩), (2, ⟨[], []⟩)] [[], []] (.sq (.nd) (.sq (.sq (.mk [] [0, 0, 3, 7, 0, 0, 48, 112, 255]) (.nd)) (.nd))))) (.nd)))
theorem e28 (k : Nat) (y : Tup h28) : exec (P := Try.prog) D (lk rowsL) [] k (bodyOf Try.f28) n28 (fnE Try.f28 A28 [] (inOf A28 (ofTup h28 y))) (fnSt [] (inOf A28 (ofTup h28 y))) (leafR D (fnE Try.f28 A28 [] (inOf A28 (ofTup h28 y))) Try.f28.results.toList (R28.map (·.h)) R28) = F28 k y.1 y.2 := by kernel_rfl
noncomputable def C28 (k : Nat) : Con Try.prog := ⟨28, Try.f28, Try.func28, by kernel_rfl, by kernel_rfl, A28, h28, [], R28, fun y => F28 k y.1 y.2, fun y r h => con_ok good mixed (c := bodyOf Try.f28) Try.func28 (by kernel_rfl) n28 y ((e28 k y).trans h)⟩
noncomputable def F21 (k : Nat) (x1 : Int) (x2 : Int) (x3 : (List (Int × Int))) (x4 : Int) (x5 : Int) (x6 : (List (Int × Int))) : Option Bool :=
cond (x1 == x4) (
cond (x2 == x5) (
(F28 k x3 x6).bind fun y1 => 
some y1) (
some false)) (
some false)
def A21 : CTpl := ⟨[.ag [.i .u32, .i .u32, .fz .u (.int .i64 (.int .i64 .nil))], .ag [.i .u32, .i .u32, .fz .u (.int .i64 (.int .i64 .nil))]], []⟩
def h21 : List HTy := [.ti, .ti, .tl (.int .i64 (.int .i64 .nil)), .ti, .ti, .tl (.int .i64 (.int .i64 .nil))]
def R21 : List RTpl := [⟨.b, [], [.tb]⟩]
def n21 : An := .nd
theorem e21 (k : Nat) (y : Tup h21) : exec (P := Try.prog) D (lk rowsL) [C28 k] k (bodyOf Try.f21) n21 (fnE Try.f21 A21 [] (inOf A21 (ofTup h21 y))) (fnSt [] (inOf A21 (ofTup h21 y))) (leafR D (fnE Try.f21 A21 [] (inOf A21 (ofTup h21 y))) Try.f21.results.toList (R21.map (·.h)) R21) = F21 k y.1 y.2.1 y.2.2.1 y.2.2.2.1 y.2.2.2.2.1 y.2.2.2.2.2 := by kernel_rfl
noncomputable def C21 (k : Nat) : Con Try.prog := ⟨21, Try.f21, Try.func21, by kernel_rfl, by kernel_rfl, A21, h21, [], R21, fun y => F21 k y.1 y.2.1 y.2.2.1 y.2.2.2.1 y.2.2.2.2.1 y.2.2.2.2.2, fun y r h => con_ok good mixed (c := bodyOf Try.f21) Try.func21 (by kernel_rfl) n21 y ((e21 k y).trans h)⟩
noncomputable def L22_23 (k : Nat) (x1 : Int) (x3 : (List (Int × Int × (List (Int × Int))))) (z156 : (Int × (List Int))) (z157 : (Bool × Int)) : Option ((Bool × Int) ⊕ Bool) :=
(ix x3 z156.1).bind fun a158 =>
(x3[z156.1.toNat]?).bind fun a159 =>
cond (decide (z157.2 < (a159.2.2.length : Int))) (
(((ix x3 z156.1).bind fun a160 =>
(x3[z156.1.toNat]?).bind fun a161 =>
(ix a161.2.2 z157.2).bind fun a162 =>
cond (a162.1 == x1) (
some true) (
some z157.1) : Option Bool)).bind fun y163 => 
some (.inl (y163, (IntKind.wrap .i64 (z157.2 + 1))))) (
some (.inr z157.1))
noncomputable def L22_8 (k : Nat) (x1 : Int) (x3 : (List (Int × Int × (List (Int × Int))))) (z156 : (Int × (List Int))) : Option ((Int × (List Int)) ⊕ (List Int)) :=
cond (decide (z156.1 < (x3.length : Int))) (
(((loopN (L22_23 k x1 x3 z156) k (false, 0)).bind fun y164 => 
cond y164 (
(ix x3 z156.1).bind fun a165 =>
(x3[z156.1.toNat]?).bind fun a166 =>
grd (decide ((z156.2.length + [a166.1].length) * 4 ≤ 140737488355328)) <|
some (z156.2 ++ [a166.1])) (
some z156.2) : Option (List Int))).bind fun y167 => 
some (.inl ((IntKind.wrap .i64 (z156.1 + 1)), y167))) (
some (.inr z156.2))
noncomputable def F22 (k : Nat) (x1 : Int) (x2 : Int) (x3 : (List (Int × Int × (List (Int × Int))))) : Option (List Int) :=
(loopN (L22_8 k x1 x3) k (0, ([] : List Int))).bind fun y168 => 
some y168
def A22 : CTpl := ⟨[.pt 1000000 0, .i .i64], [(1000000, .bx 46 [.sl .u 1000001, .i .u32]), (1000001, .ar 35 (.int .u32 (.int .u32 (.sl (.int .i64 (.int .i64 .nil)) .nil))))]⟩
def h22 : List HTy := [.ti, .ti, .tl (.int .u32 (.int .u32 (.sl (.int .i64 (.int .i64 .nil)) .nil)))]
def R22 : List RTpl := [⟨.sl .u 500000, [(500000, .ar 29 (.int .u32 .nil))], [.tl (.int .u32 .nil)]⟩]
def n22 : An := .sq (.nd) (.sq (.nd) (.sq (.sq (.nd) (.lp [0, 1] [] ⟨[(5, .sl .n 300400), (6, .i .i64)], [(300400, .ar 29 (.int .u32 .nil))]⟩ [.ti, .tl (.int .u32 .nil)] [(2, ⟨[(5, .sl .n 300425)], [(300425, .ar 29 (.int .u32 .nil))]⟩)] [[.tl (.int .u32 .nil)]] (.sq (.nd) (.jn [6] [] [(0, ⟨[(5, .sl .n 300750)], [(300750, .ar 29 (.int .u32 .nil))]⟩)] [[.tl (.int .u32 .nil)]] (.sq (.nd) (.sq (.sq (.nd) (.lp [5] [300400] ⟨[(7, .b), (8, .i .i64)], []⟩ [.tb, .ti] [(4, ⟨[(7, .b)], []⟩)] [[.tb]] (.sq (.nd) (.jn [8] [] [(0, ⟨[(7, .b)], []⟩)] [[.tb]] (.nd) (.nd))))) (.nd))) (.nd))))) (.nd)))
theorem e22 (k : Nat) (y : Tup h22) : exec (P := Try.prog) D (lk rowsL) [] k (bodyOf Try.f22) n22 (fnE Try.f22 A22 [1000000, 1000001] (inOf A22 (ofTup h22 y))) (fnSt [1000000, 1000001] (inOf A22 (ofTup h22 y))) (leafR D (fnE Try.f22 A22 [1000000, 1000001] (inOf A22 (ofTup h22 y))) Try.f22.results.toList (R22.map (·.h)) R22) = F22 k y.1 y.2.1 y.2.2 := by kernel_rfl
noncomputable def C22 (k : Nat) : Con Try.prog := ⟨22, Try.f22, Try.func22, by kernel_rfl, by kernel_rfl, A22, h22, [1000000, 1000001], R22, fun y => F22 k y.1 y.2.1 y.2.2, fun y r h => con_ok good mixed (c := bodyOf Try.f22) Try.func22 (by kernel_rfl) n22 y ((e22 k y).trans h)⟩
noncomputable def F23 (k : Nat) (x1 : Int) (x2 : Int) (x3 : (List (Int × Int))) (x4 : Int) (x5 : (List (Int × Int × (List (Int × Int))))) : Option (Int × Int × (List (Int × Int × (List (Int × Int))))) :=
((cond (x1 == 0) (
some true) (
some ((x3.length : Int) == 0)) : Option Bool)).bind fun y2 => 
cond y2 (
some (1, x4, x5)) (
cond (decide (x1 ≤ x4)) (
some (7, x4, x5)) (
grd (decide ((([] : List (Int × Int)).length + x3.length) * 16 ≤ 140737488355328)) <|
grd (decide ((x5.length + [(x1, x2, (([] : List (Int × Int)) ++ x3))].length) * 32 ≤ 140737488355328)) <|
some (0, x1, (x5 ++ [(x1, x2, (([] : List (Int × Int)) ++ x3))]))))
def A23 : CTpl := ⟨[.pt 1000000 0, .ag [.i .u32, .i .u32, .fz .u (.int .i64 (.int .i64 .nil))]], [(1000000, .bx 46 [.sl .u 1000001, .i .u32]), (1000001, .ar 35 (.int .u32 (.int .u32 (.sl (.int .i64 (.int .i64 .nil)) .nil))))]⟩
def h23 : List HTy := [.ti, .ti, .tl (.int .i64 (.int .i64 .nil)), .ti, .tl (.int .u32 (.int .u32 (.sl (.int .i64 (.int .i64 .nil)) .nil)))]
def R23 : List RTpl := [⟨.i .i64, [(1000000, .bx 46 [.sl .u 500000, .i .u32]), (1000001, .gone), (500000, .ar 35 (.int .u32 (.int .u32 (.sl (.int .i64 (.int .i64 .nil)) .nil))))], [.ti, .ti, .tl (.int .u32 (.int .u32 (.sl (.int .i64 (.int .i64 .nil)) .nil)))]⟩]
def n23 : An := .sq (.nd) (.sq (.jn [0, 3] [3, 1000000, 1000001] [(0, ⟨[(13, .b)], []⟩)] [[.tb]] (.nd) (.nd)) (.sq (.sq (.mk [] [0, 1, 0, 4, 12, 28, 63]) (.nd)) (.sq (.nd) (.sq (.mk [23] [0, 0, 2, 6, 14, 0, 32, 126, 255, 511, 1023]) (.nd)))))
theorem e23 (k : Nat) (y : Tup h23) : exec (P := Try.prog) D (lk rowsL) [] k (bodyOf Try.f23) n23 (fnE Try.f23 A23 [] (inOf A23 (ofTup h23 y))) (fnSt [] (inOf A23 (ofTup h23 y))) (leafR D (fnE Try.f23 A23 [] (inOf A23 (ofTup h23 y))) Try.f23.results.toList (R23.map (·.h)) R23) = F23 k y.1 y.2.1 y.2.2.1 y.2.2.2.1 y.2.2.2.2 := by kernel_rfl
noncomputable def C23 (k : Nat) : Con Try.prog := ⟨23, Try.f23, Try.func23, by kernel_rfl, by kernel_rfl, A23, h23, [], R23, fun y => F23 k y.1 y.2.1 y.2.2.1 y.2.2.2.1 y.2.2.2.2, fun y r h => con_ok good mixed (c := bodyOf Try.f23) Try.func23 (by kernel_rfl) n23 y ((e23 k y).trans h)⟩
noncomputable def F30_1 (k : Nat) (x1 : (List (Int × Int))) : Option (List (Int × Int)) :=
nilT x1.isEmpty (
some ([] : List (Int × Int))) (
grd (decide ((([] : List (Int × Int)).length + x1.length) * 16 ≤ 140737488355328)) <|
some (([] : List (Int × Int)) ++ x1))
def A30_1 : CTpl := ⟨[.sl .u 1000000], [(1000000, .ar 50 (.int .i64 (.int .i64 .nil)))]⟩
def h30_1 : List HTy := [.tl (.int .i64 (.int .i64 .nil))]
def R30_1 : List RTpl := [⟨.sl .u 500000, [(500000, .ar 50 (.int .i64 (.int .i64 .nil)))], [.tl (.int .i64 (.int .i64 .nil))]⟩]
def n30_1 : An := .nd
theorem e30_1 (k : Nat) (y : Tup h30_1) : exec (P := Try.prog) D (lk rowsL) [] k (bodyOf Try.f30) n30_1 (fnE Try.f30 A30_1 [1000000] (inOf A30_1 (ofTup h30_1 y))) (fnSt [1000000] (inOf A30_1 (ofTup h30_1 y))) (leafR D (fnE Try.f30 A30_1 [1000000] (inOf A30_1 (ofTup h30_1 y))) Try.f30.results.toList (R30_1.map (·.h)) R30_1) = F30_1 k y := by kernel_rfl
noncomputable def C30_1 (k : Nat) : Con Try.prog := ⟨30, Try.f30, Try.func30, by kernel_rfl, by kernel_rfl, A30_1, h30_1, [1000000], R30_1, fun y => F30_1 k y, fun y r h => con_ok good mixed (c := bodyOf Try.f30) Try.func30 (by kernel_rfl) n30_1 y ((e30_1 k y).trans h)⟩
noncomputable def F26_1 (k : Nat) (x1 : Int) (x2 : Int) (x3 : (List (Int × Int))) : Option (Int × Int × (List (Int × Int))) :=
(F30_1 k x3).bind fun y2 => 
some (x1, x2, y2)
def A26_1 : CTpl := ⟨[.ag [.i .u32, .i .u32, .sl .u 1000000]], [(1000000, .ar 50 (.int .i64 (.int .i64 .nil)))]⟩
def h26_1 : List HTy := [.ti, .ti, .tl (.int .i64 (.int .i64 .nil))]
def R26_1 : List RTpl := [⟨.ag [.i .u32, .i .u32, .fz .u (.int .i64 (.int .i64 .nil))], [], [.ti, .ti, .tl (.int .i64 (.int .i64 .nil))]⟩]
def n26_1 : An := .nd
theorem e26_1 (k : Nat) (y : Tup h26_1) : exec (P := Try.prog) D (lk rowsL) [C30_1 k] k (bodyOf Try.f26) n26_1 (fnE Try.f26 A26_1 [1000000] (inOf A26_1 (ofTup h26_1 y))) (fnSt [1000000] (inOf A26_1 (ofTup h26_1 y))) (leafR D (fnE Try.f26 A26_1 [1000000] (inOf A26_1 (ofTup h26_1 y))) Try.f26.results.toList (R26_1.map (·.h)) R26_1) = F26_1 k y.1 y.2.1 y.2.2 := by kernel_rfl
noncomputable def C26_1 (k : Nat) : Con Try.prog := ⟨26, Try.f26, Try.func26, by kernel_rfl, by kernel_rfl, A26_1, h26_1, [1000000], R26_1, fun y => F26_1 k y.1 y.2.1 y.2.2, fun y r h => con_ok good mixed (c := bodyOf Try.f26) Try.func26 (by kernel_rfl) n26_1 y ((e26_1 k y).trans h)⟩
noncomputable def F14_2 (k : Nat) (x1 : Int) (x2 : Int) (x3 : Int) (x4 : (List (Int × Int))) (x5 : (List (Int × Int × (List (Int × Int))))) : Option (Int × Int × (List (Int × Int × (List (Int × Int))))) :=
((cond (x1 == 0) (
some true) (
some ((x4.length : Int) == 0)) : Option Bool)).bind fun y2 => 
cond y2 (
some (1, x3, x5)) (
cond (decide (x1 ≤ x3)) (
some (7, x3, x5)) (
(F26_1 k x1 x2 x4).bind fun y4 => 
grd (decide ((x5.length + [(y4.1, y4.2.1, y4.2.2)].length) * 32 ≤ 140737488355328)) <|
some (0, x1, (x5 ++ [(y4.1, y4.2.1, y4.2.2)]))))
def A14_2 : CTpl := ⟨[.pt 1000000 0, .ag [.i .u32, .i .u32, .sl .u 1000001]], [(1000000, .bx 59 [.sl .u 1000002, .i .u32]), (1000001, .ar 50 (.int .i64 (.int .i64 .nil))), (1000002, .ar 35 (.int .u32 (.int .u32 (.sl (.int .i64 (.int .i64 .nil)) .nil))))]⟩
def h14_2 : List HTy := [.ti, .ti, .ti, .tl (.int .i64 (.int .i64 .nil)), .tl (.int .u32 (.int .u32 (.sl (.int .i64 (.int .i64 .nil)) .nil)))]
def R14_2 : List RTpl := [⟨.i .i64, [(1000000, .bx 59 [.sl .u 500000, .i .u32]), (1000002, .gone), (500000, .ar 35 (.int .u32 (.int .u32 (.sl (.int .i64 (.int .i64 .nil)) .nil))))], [.ti, .ti, .tl (.int .u32 (.int .u32 (.sl (.int .i64 (.int .i64 .nil)) .nil)))]⟩]
def n14_2 : An := .sq (.nd) (.sq (.jn [0, 3] [3, 1000000, 1000002] [(0, ⟨[(5, .b)], []⟩)] [[.tb]] (.nd) (.sq (.nd) (.sq (.mk [] [0, 1, 0, 4, 12, 28, 63, 127]) (.nd)))) (.sq (.mk [] [0, 0, 0, 4, 12, 28, 0, 64, 192, 508, 0, 1024, 1021, 5117, 13309, 32767, 65535, 131071]) (.nd)))
theorem e14_2 (k : Nat) (y : Tup h14_2) : exec (P := Try.prog) D (lk rowsL) [C26_1 k] k (bodyOf Try.f14) n14_2 (fnE Try.f14 A14_2 [1000001] (inOf A14_2 (ofTup h14_2 y))) (fnSt [1000001] (inOf A14_2 (ofTup h14_2 y))) (leafR D (fnE Try.f14 A14_2 [1000001] (inOf A14_2 (ofTup h14_2 y))) Try.f14.results.toList (R14_2.map (·.h)) R14_2) = F14_2 k y.1 y.2.1 y.2.2.1 y.2.2.2.1 y.2.2.2.2 := by kernel_rfl
noncomputable def C14_2 (k : Nat) : Con Try.prog := ⟨14, Try.f14, Try.func14, by kernel_rfl, by kernel_rfl, A14_2, h14_2, [1000001], R14_2, fun y => F14_2 k y.1 y.2.1 y.2.2.1 y.2.2.2.1 y.2.2.2.2, fun y r h => con_ok good mixed (c := bodyOf Try.f14) Try.func14 (by kernel_rfl) n14_2 y ((e14_2 k y).trans h)⟩
noncomputable def L5_41 (k : Nat) (z621 : (Int × (List (Int × Int)))) : Option ((Int × (List (Int × Int))) ⊕ (List (Int × Int))) :=
cond (decide (z621.1 < (z621.2.length : Int))) (
(ix z621.2 z621.1).bind fun a622 =>
(z621.2[z621.1.toNat]?).bind fun a623 =>
(F10 k a623.1 5).bind fun y624 => 
(ix z621.2 z621.1).bind fun a625 =>
((z621.2[z621.1.toNat]?).bind fun a626 => some (y624, a626.2)).bind fun a627 =>
some (.inl ((IntKind.wrap .i64 (z621.1 + 1)), (z621.2.set z621.1.toNat a627)))) (
some (.inr z621.2))
noncomputable def L5_113 (k : Nat) (z646 : (Int × (List (Int × Int)))) : Option ((Int × (List (Int × Int))) ⊕ (List (Int × Int))) :=
cond (decide (z646.1 < (z646.2.length : Int))) (
(ix z646.2 z646.1).bind fun a647 =>
((z646.2[z646.1.toNat]?).bind fun a648 => some (a648.1, (-7))).bind fun a649 =>
some (.inl ((IntKind.wrap .i64 (z646.1 + 1)), (z646.2.set z646.1.toNat a649)))) (
some (.inr z646.2))
noncomputable def L5_18 (k : Nat) (x1 : (List (Int × Int × Int × Int × (List (Int × Int)) × Bool))) (z616 : (Int × Int × Int × (List (Int × Int × (List (Int × Int)))) × (List (Int × Int × (List (Int × Int)))))) : Option ((Int × Int × Int × (List (Int × Int × (List (Int × Int)))) × (List (Int × Int × (List (Int × Int))))) ⊕ ((Int × Int × (List (Int × Int × (List (Int × Int)))) × (List (Int × Int × (List (Int × Int))))) ⊕ (Int × Int × (List (Int × Int × (List (Int × Int)))) × (List (Int × Int × (List (Int × Int))))))) :=
((cond (decide (z616.1 < (x1.length : Int))) (
some (decide (z616.1 < 50))) (
some false) : Option Bool)).bind fun y617 => 
cond y617 (
(ix x1 z616.1).bind fun a618 =>
(((ix x1 z616.1).bind fun a619 =>
cond a619.2.2.2.2.2 (
some ((IntKind.wrap .u32 (z616.2.2.1 + (a618.2.2.1.tmod 3))), a618.2.2.2.1, a618.2.2.2.2.1)) (
some (a618.2.2.1, a618.2.2.2.1, a618.2.2.2.2.1)) : Option (Int × Int × (List (Int × Int))))).bind fun y620 => 
grd (bnds (y620.2.2.length : Int) 0 (mn (y620.2.2.length : Int) 8)) <|
grd (decide ((([] : List (Int × Int)).length + (cut y620.2.2 0 (mn (y620.2.2.length : Int) 8)).length) * 16 ≤ 140737488355328)) <|
(loopN (L5_41 k) k (0, (([] : List (Int × Int)) ++ (cut y620.2.2 0 (mn (y620.2.2.length : Int) 8))))).bind fun y628 => 
(((ix x1 z616.1).bind fun a629 =>
(F10 k a629.1 8).bind fun y630 => 
cond (y630 == 5) (
(F17 k y620.1 z616.2.1 z616.2.2.2.1).bind fun y631 => 
(F18 k y620.1 z616.2.2.1 z616.2.2.2.2).bind fun y632 => 
cond (y631.1 != y632.1) (
some (.inr (y631.2.1, y632.2.1, y631.2.2, y632.2.2))) (
some (.inl (y631.2.1, y632.2.1, y631.2.2, y632.2.2)))) (
cond (y630 == 6) (
(F19_1 k y620.1 z616.2.1 z616.2.2.2.1).bind fun y633 => 
(F20 k y620.1 z616.2.2.1 z616.2.2.2.2).bind fun y634 => 
((cond (!(y633.2.2.2 == y634.2.2.2)) (
some true) (
(F21 k y633.1 y633.2.1 y633.2.2.1 y634.1 y634.2.1 y634.2.2.1).bind fun y635 => 
some (!y635)) : Option Bool)).bind fun y636 => 
cond y636 (
some (.inr (z616.2.1, z616.2.2.1, z616.2.2.2.1, z616.2.2.2.2))) (
some (.inl (z616.2.1, z616.2.2.1, z616.2.2.2.1, z616.2.2.2.2)))) (
cond (y630 == 7) (
(ix x1 z616.1).bind fun a637 =>
(((ix x1 z616.1).bind fun a638 =>
cond a638.2.2.2.2.2 (
(F10 k a637.2.1 5).bind fun y639 => 
some y639) (
some a637.2.1) : Option Int)).bind fun y640 => 
(F12 k y640 z616.2.1 z616.2.2.2.1).bind fun y641 => 
(F22 k y640 z616.2.2.1 z616.2.2.2.2).bind fun y642 => 
(F11_1 k y641 y642).bind fun y643 => 
cond (!y643) (
some (.inr (z616.2.1, z616.2.2.1, z616.2.2.2.1, z616.2.2.2.2))) (
some (.inl (z616.2.1, z616.2.2.1, z616.2.2.2.1, z616.2.2.2.2)))) (
grd (decide ((([] : List (Int × Int)).length + y628.length) * 16 ≤ 140737488355328)) <|
(F14_2 k y620.1 y620.2.1 z616.2.1 (([] : List (Int × Int)) ++ y628) z616.2.2.2.1).bind fun y644 => 
(F23 k y620.1 y620.2.1 y628 z616.2.2.1 z616.2.2.2.2).bind fun y645 => 
cond (y644.1 != y645.1) (
some (.inr (y644.2.1, y645.2.1, y644.2.2, y645.2.2))) (
(loopN (L5_113 k) k (0, (([] : List (Int × Int)) ++ y628))).bind fun y650 => 
some (.inl (y644.2.1, y645.2.1, y644.2.2, y645.2.2)))))) : Option ((Int × Int × (List (Int × Int × (List (Int × Int)))) × (List (Int × Int × (List (Int × Int))))) ⊕ (Int × Int × (List (Int × Int × (List (Int × Int)))) × (List (Int × Int × (List (Int × Int)))))))).bind fun y651 => 
sel (fun y652 =>
(((F15 k y652.1 y652.2.2.1).bind fun y654 => 
cond (y654 != (y652.2.2.2.length : Int)) (
some true) (
(F16 k y652.1 y652.2.2.1).bind fun y655 => 
some (y655 != y652.2.1)) : Option Bool)).bind fun y656 => 
cond y656 (
some (.inr (.inl (y652.1, y652.2.1, y652.2.2.1, y652.2.2.2)))) (
some (.inl ((IntKind.wrap .i64 (z616.1 + 1)), y652.1, y652.2.1, y652.2.2.1, y652.2.2.2)))) (fun y653 =>
some (.inr (.inl (y653.1, y653.2.1, y653.2.2.1, y653.2.2.2)))) y651) (
some (.inr (.inr (z616.2.1, z616.2.2.1, z616.2.2.2.1, z616.2.2.2.2))))
noncomputable def F5 (k : Nat) (x1 : (List (Int × Int × Int × Int × (List (Int × Int)) × Bool))) : Option Bool :=
(F13 k).bind fun y2 => 
(((F9 k).bind fun y6 => 
cond (!y6) (
some true) (
some false) : Option Bool)).bind fun y7 => 
cond y7 (
some false) (
(loopN (L5_18 k x1) k (0, y2.1, 0, y2.2, ([] : List (Int × Int × (List (Int × Int)))))).bind fun y657 => 
sel (fun y658 =>
some false) (fun y659 =>
some true) y657)
def A5 : CTpl := ⟨[.fz .u (.int .i64 (.int .i64 (.int .u32 (.int .u32 (.sl (.int .i64 (.int .i64 .nil)) (.bool .nil))))))], []⟩
def h5 : List HTy := [.tl (.int .i64 (.int .i64 (.int .u32 (.int .u32 (.sl (.int .i64 (.int .i64 .nil)) (.bool .nil))))))]
def R5 : List RTpl := [⟨.b, [], [.tb]⟩]
def n5 : An := .sq (.nd) (.sq (.nd) (.sq (.jn [0, 3] [401600, 401601] [(0, ⟨[(22, .b)], []⟩)] [[.tb]] (.nd) (.nd)) (.sq (.nd) (.sq (.sq (.nd) (.lp [0, 3, 4] [] ⟨[(5, .i .i64)], [(401600, .bx 59 [.sl .u 300900, .i .u32]), (24, .bx 46 [.sl .u 300901, .i .u32]), (300900, .ar 35 (.int .u32 (.int .u32 (.sl (.int .i64 (.int .i64 .nil)) .nil)))), (300901, .ar 35 (.int .u32 (.int .u32 (.sl (.int .i64 (.int .i64 .nil)) .nil))))]⟩ [.ti, .ti, .ti, .tl (.int .u32 (.int .u32 (.sl (.int .i64 (.int .i64 .nil)) .nil))), .tl (.int .u32 (.int .u32 (.sl (.int .i64 (.int .i64 .nil)) .nil)))] [(1, ⟨[(2, .lb false)], [(401600, .bx 59 [.sl .u 300925, .i .u32]), (24, .bx 46 [.sl .u 300926, .i .u32]), (300925, .ar 35 (.int .u32 (.int .u32 (.sl (.int .i64 (.int .i64 .nil)) .nil)))), (300926, .ar 35 (.int .u32 (.int .u32 (.sl (.int .i64 (.int .i64 .nil)) .nil))))]⟩), (2, ⟨[], [(401600, .bx 59 [.sl .u 300935, .i .u32]), (24, .bx 46 [.sl .u 300936, .i .u32]), (300935, .ar 35 (.int .u32 (.int .u32 (.sl (.int .i64 (.int .i64 .nil)) .nil)))), (300936, .ar 35 (.int .u32 (.int .u32 (.sl (.int .i64 (.int .i64 .nil)) .nil))))]⟩)] [[.ti, .ti, .tl (.int .u32 (.int .u32 (.sl (.int .i64 (.int .i64 .nil)) .nil))), .tl (.int .u32 (.int .u32 (.sl (.int .i64 (.int .i64 .nil)) .nil)))], [.ti, .ti, .tl (.int .u32 (.int .u32 (.sl (.int .i64 (.int .i64 .nil)) .nil))), .tl (.int .u32 (.int .u32 (.sl (.int .i64 (.int .i64 .nil)) .nil)))]] (.sq (.jn [5] [24, 300900, 300901, 401600] [(0, ⟨[(32, .b)], []⟩)] [[.tb]] (.nd) (.nd)) (.sq (.sq (.nd) (.jn [5, 6] [24, 300900, 300901, 401600] [(0, ⟨[], [(6, .bx 35 [.i .u32, .i .u32, .fz .u (.int .i64 (.int .i64 .nil))])]⟩)] [[.ti, .ti, .tl (.int .i64 (.int .i64 .nil))]] (.sq (.nd) (.sq (.mk [] [0, 1, 3, 7, 0, 16, 48, 127, 255, 511]) (.nd))) (.sq (.nd) (.sq (.sq (.nd) (.lp [5, 6] [6, 24, 300900, 300901, 401600] ⟨[(7, .i .i64)], [(61, .ar 50 (.int .i64 (.int .i64 .nil)))]⟩ [.ti, .tl (.int .i64 (.int .i64 .nil))] [(4, ⟨[], [(61, .ar 50 (.int .i64 (.int .i64 .nil)))]⟩)] [[.tl (.int .i64 (.int .i64 .nil))]] (.sq (.nd) (.sq (.mk [] [0, 1, 0, 0, 8, 0, 56, 120, 248, 504, 1023, 2047, 4095]) (.nd))))) (.jn [5] [] [(0, ⟨[], [(401600, .bx 59 [.sl .u 302600, .i .u32]), (24, .bx 46 [.sl .u 302601, .i .u32]), (302600, .ar 35 (.int .u32 (.int .u32 (.sl (.int .i64 (.int .i64 .nil)) .nil)))), (302601, .ar 35 (.int .u32 (.int .u32 (.sl (.int .i64 (.int .i64 .nil)) .nil))))]⟩), (1, ⟨[(2, .lb false)], [(401600, .bx 59 [.sl .u 302610, .i .u32]), (24, .bx 46 [.sl .u 302611, .i .u32]), (302610, .ar 35 (.int .u32 (.int .u32 (.sl (.int .i64 (.int .i64 .nil)) .nil)))), (302611, .ar 35 (.int .u32 (.int .u32 (.sl (.int .i64 (.int .i64 .nil)) .nil))))]⟩)] [[.ti, .ti, .tl (.int .u32 (.int .u32 (.sl (.int .i64 (.int .i64 .nil)) .nil))), .tl (.int .u32 (.int .u32 (.sl (.int .i64 (.int .i64 .nil)) .nil)))], [.ti, .ti, .tl (.int .u32 (.int .u32 (.sl (.int .i64 (.int .i64 .nil)) .nil))), .tl (.int .u32 (.int .u32 (.sl (.int .i64 (.int .i64 .nil)) .nil)))]] (.sq (.nd) (.sq (.nd) (.sq (.sq (.mk [] [0, 0, 2, 7, 0, 0, 32, 127, 255]) (.nd)) (.sq (.nd) (.sq (.sq (.nd) (.sq (.nd) (.jn [] [24, 300900, 300901, 401600] [(0, ⟨[(149, .b)], []⟩)] [[.tb]] (.nd) (.nd)))) (.sq (.nd) (.sq (.sq (.nd) (.jn [] [24, 300900, 300901, 401600] [(0, ⟨[(12, .i .i64)], []⟩)] [[.ti]] (.nd) (.sq (.fr [(6, 416600), (6, 416900)]) (.nd)))) (.sq (.nd) (.sq (.nd) (.sq (.sq (.fr [(3, 61)]) (.nd)) (.sq (.nd) (.lp [13] [24, 401600, 409800, 410200] ⟨[(15, .i .i64)], [(90, .ar 50 (.int .i64 (.int .i64 .nil)))]⟩ [.ti, .tl (.int .i64 (.int .i64 .nil))] [(7, ⟨[], [(90, .ar 50 (.int .i64 (.int .i64 .nil)))]⟩)] [[.tl (.int .i64 (.int .i64 .nil))]] (.nd))))))))))))) (.jn [5] [24, 302600, 302601, 401600] [(0, ⟨[(188, .b)], []⟩)] [[.tb]] (.mk [] [0, 1, 0, 4, 12, 28, 60, 127, 255, 511, 1023, 511, 2559, 6655, 14847, 32767, 65535]) (.nd))))))) (.nd))))) (.nd)))))
theorem e5 (k : Nat) (y : Tup h5) : exec (P := Try.prog) D (lk rowsL) [C13 k, C9 k, C10 k, C17 k, C18 k, C19_1 k, C20 k, C21 k, C12 k, C22 k, C11_1 k, C14_2 k, C23 k, C15 k, C16 k] k (bodyOf Try.f5) n5 (fnE Try.f5 A5 [] (inOf A5 (ofTup h5 y))) (fnSt [] (inOf A5 (ofTup h5 y))) (leafR D (fnE Try.f5 A5 [] (inOf A5 (ofTup h5 y))) Try.f5.results.toList (R5.map (·.h)) R5) = F5 k y := by kernel_rfl
noncomputable def C5 (k : Nat) : Con Try.prog := ⟨5, Try.f5, Try.func5, by kernel_rfl, by kernel_rfl, A5, h5, [], R5, fun y => F5 k y, fun y r h => con_ok good mixed (c := bodyOf Try.f5) Try.func5 (by kernel_rfl) n5 y ((e5 k y).trans h)⟩
end Go.Proofs.Ytljbepjbecjpiaa.N

/- What the functions compute, natively, and that they do. Printed by a program (wip/xg). -/
import Derived.Test.YtnpgfcedmdnemaaDoorMc3
import Derived.Test.YtnpgfcedmdnemaaDoorProg
import Derived.Test.YtnpgfcedmdnemaaDoorShelf
namespace Go.Proofs.YtnpgfcedmdnemaaDoor.N
open Go Go.RowKit Go.Proofs.YtnpgfcedmdnemaaDoor.Mc Go.Proofs
set_option maxRecDepth 100000
set_option maxHeartbeats 0
set_option linter.unusedVariables false
noncomputable abbrev D := decOf Tryd.prog
theorem good : Go.Proofs.YtnpgfcedmdnemaaDoor.Mc.Good Tryd.prog D := good_of _
theorem mixed : Tryd.prog.follows .mixedOrders = true := by kernel_rfl
def rowsL : List (Nat × Row) := [(26, (.str (.bool (.str .nil)))), (38, (.str .nil)), (46, (.str (.bool (.str (.int .u32 .nil))))), (48, (.str (.int .u32 (.int .u32 .nil)))), (58, (.int .u8 .nil)), (78, (.int .i64 .nil)), (100, (.int .i32 .nil))]
variable [Mo]
noncomputable def F9 (k : Nat) : Option ((List (ByteArray × Int × Int)) × (List (ByteArray × Bool × ByteArray))) :=
some (([] : List (ByteArray × Int × Int)), ([] : List (ByteArray × Bool × ByteArray)))
def A9 : CTpl := ⟨[], []⟩
def h9 : List HTy := []
def R9 : List RTpl := [⟨.pt 500000 0, [(500000, .bx 73 [.sl .u 500001, .fz .u (.str (.int .u32 (.int .u32 .nil)))]), (500001, .ar 31 (.str (.bool (.str .nil))))], [.tl (.str (.int .u32 (.int .u32 .nil))), .tl (.str (.bool (.str .nil)))]⟩]
def n9 : An := .nd
theorem e9 (k : Nat) (y : Tup h9) : exec (P := Tryd.prog) D (lk rowsL) [] k (bodyOf Tryd.f9) n9 (fnE Tryd.f9 A9 [] (inOf A9 (ofTup h9 y))) (fnSt [] (inOf A9 (ofTup h9 y))) (leafR D (fnE Tryd.f9 A9 [] (inOf A9 (ofTup h9 y))) Tryd.f9.results.toList (R9.map (·.h)) R9) = F9 k := by kernel_rfl
noncomputable def C9 (k : Nat) : Con Tryd.prog := ⟨9, Tryd.f9, Tryd.func9, by kernel_rfl, by kernel_rfl, A9, h9, [], R9, fun y => F9 k, fun y r h => con_ok good mixed (c := bodyOf Tryd.f9) Tryd.func9 (by kernel_rfl) n9 y ((e9 k y).trans h)⟩
noncomputable def F50 (k : Nat) (x1 : ByteArray) : Option (Int × Int) :=
some (((Go.Lib.decodeGo x1).1 : Int), ((Go.Lib.decodeGo x1).2 : Int))
def A50 : CTpl := ⟨[.s], []⟩
def h50 : List HTy := [.ts]
def R50 : List RTpl := [⟨.tp [.i .i32, .i .i64], [], [.ti, .ti]⟩]
def n50 : An := .nd
noncomputable def C50 (k : Nat) (hm : Mo.m = false) : Con Tryd.prog := ⟨50, Tryd.f50, Tryd.func50, by kernel_rfl, by kernel_rfl, A50, h50, [], R50, fun y => F50 k y, fun y r h => by
  have h2 : some (((Go.Lib.decodeGo y).1 : Int), ((Go.Lib.decodeGo y).2 : Int)) = some r := h
  cases h2
  exact CTx.lib (vs := [.string y]) rfl (fun _ _ _ => relV_two) fun w hw => (Tryd.utf8_DecodeRuneInString y w (tabs_of (by kernel_rfl) (by kernel_rfl) hw)).mono fun e w2 g => ⟨g.1, g.2, fun g2 => by rw [hm] at g2; cases g2⟩⟩
noncomputable def L44_8 (k : Nat) (x1 : ByteArray) (z18 : (Int × ByteArray × Nat)) : Option ((Int × ByteArray × Nat) ⊕ ((ByteArray × Nat) ⊕ (Int × ByteArray × Nat))) :=
cond (decide (z18.2.2 < z18.2.1.size)) (
((cond (decide (12 < (IntKind.wrap .i64 (z18.1 + 1)))) (
some true) (
cond (decide (((Utf8.decode z18.2.1 z18.2.2).1 : Int) < 33)) (
some true) (
cond (decide (127 ≤ ((Utf8.decode z18.2.1 z18.2.2).1 : Int))) (
some (decide (((Utf8.decode z18.2.1 z18.2.2).1 : Int) ≤ 160))) (
some false))) : Option Bool)).bind fun y19 => 
cond y19 (
some (.inr (.inl (z18.2.1, (z18.2.2 + (Utf8.decode z18.2.1 z18.2.2).2))))) (
grd (bnds (x1.size : Int) (z18.2.2 : Int) (x1.size : Int)) <|
(F50 k (x1.extract ((z18.2.2 : Int).toNat) ((x1.size : Int).toNat))).bind fun y20 => 
((cond (((Utf8.decode z18.2.1 z18.2.2).1 : Int) == 65533) (
some (y20.2 == 1)) (
some false) : Option Bool)).bind fun y21 => 
cond y21 (
some (.inr (.inl (z18.2.1, (z18.2.2 + (Utf8.decode z18.2.1 z18.2.2).2))))) (
some (.inl ((IntKind.wrap .i64 (z18.1 + 1)), z18.2.1, (z18.2.2 + (Utf8.decode z18.2.1 z18.2.2).2)))))) (
some (.inr (.inr (z18.1, z18.2.1, z18.2.2))))
noncomputable def F44 (k : Nat) (x1 : ByteArray) : Option Bool :=
(loopN (L44_8 k x1) k (0, x1, 0)).bind fun y22 => 
sel (fun y23 =>
some false) (fun y24 =>
some (decide (0 < y24.1))) y22
def A44 : CTpl := ⟨[.s], []⟩
def h44 : List HTy := [.ts]
def R44 : List RTpl := [⟨.b, [], [.tb]⟩]
def n44 : An := .sq (.nd) (.sq (.nd) (.sq (.sq (.nd) (.lp [0, 9] [] ⟨[(3, .i .i64)], [(9, .si)]⟩ [.ti, .ts, .tn] [(1, ⟨[(2, .lb false)], [(9, .si)]⟩), (2, ⟨[(3, .i .i64)], [(9, .si)]⟩)] [[.ts, .tn], [.ti, .ts, .tn]] (.sq (.nd) (.sq (.nd) (.sq (.nd) (.sq (.nd) (.sq (.jn [3, 4, 5] [9] [(0, ⟨[(29, .b)], []⟩)] [[.tb]] (.nd) (.nd)) (.sq (.nd) (.jn [3] [9] [(0, ⟨[(42, .b)], []⟩)] [[.tb]] (.nd) (.nd)))))))))) (.nd)))
theorem e44 (k : Nat) (hm : Mo.m = false) (y : Tup h44) : exec (P := Tryd.prog) D (lk rowsL) [C50 k hm] k (bodyOf Tryd.f44) n44 (fnE Tryd.f44 A44 [] (inOf A44 (ofTup h44 y))) (fnSt [] (inOf A44 (ofTup h44 y))) (leafR D (fnE Tryd.f44 A44 [] (inOf A44 (ofTup h44 y))) Tryd.f44.results.toList (R44.map (·.h)) R44) = F44 k y := by kernel_rfl
noncomputable def C44 (k : Nat) (hm : Mo.m = false) : Con Tryd.prog := ⟨44, Tryd.f44, Tryd.func44, by kernel_rfl, by kernel_rfl, A44, h44, [], R44, fun y => F44 k y, fun y r h => con_ok good mixed (c := bodyOf Tryd.f44) Tryd.func44 (by kernel_rfl) n44 y ((e44 k hm y).trans h)⟩
noncomputable def F46 (k : Nat) (x1 : ByteArray) (x2 : Bool) (x3 : ByteArray) (x4 : ByteArray) (x5 : Bool) (x6 : ByteArray) : Option Bool :=
some (x1.toList == x4.toList)
def A46 : CTpl := ⟨[.ag [.s, .b, .s], .pt 1000000 0], [(1000000, .bx 31 [.s, .b, .s])]⟩
def h46 : List HTy := [.ts, .tb, .ts, .ts, .tb, .ts]
def R46 : List RTpl := [⟨.b, [], [.tb]⟩]
def n46 : An := .nd
theorem e46 (k : Nat) (y : Tup h46) : exec (P := Tryd.prog) D (lk rowsL) [] k (bodyOf Tryd.f46) n46 (fnE Tryd.f46 A46 [1000000] (inOf A46 (ofTup h46 y))) (fnSt [1000000] (inOf A46 (ofTup h46 y))) (leafR D (fnE Tryd.f46 A46 [1000000] (inOf A46 (ofTup h46 y))) Tryd.f46.results.toList (R46.map (·.h)) R46) = F46 k y.1 y.2.1 y.2.2.1 y.2.2.2.1 y.2.2.2.2.1 y.2.2.2.2.2 := by kernel_rfl
noncomputable def C46 (k : Nat) : Con Tryd.prog := ⟨46, Tryd.f46, Tryd.func46, by kernel_rfl, by kernel_rfl, A46, h46, [1000000], R46, fun y => F46 k y.1 y.2.1 y.2.2.1 y.2.2.2.1 y.2.2.2.2.1 y.2.2.2.2.2, fun y r h => con_ok good mixed (c := bodyOf Tryd.f46) Tryd.func46 (by kernel_rfl) n46 y ((e46 k y).trans h)⟩
noncomputable def L45_6 (k : Nat) (x1 : (List (ByteArray × Bool × ByteArray))) (x2 : ByteArray) (x3 : Bool) (x4 : ByteArray) (z26 : Int) : Option (Int ⊕ (Int ⊕ Unit)) :=
cond (decide (z26 < (x1.length : Int))) (
(ix x1 z26).bind fun a27 =>
(x1[z26.toNat]?).bind fun a28 =>
(F46 k a28.1 a28.2.1 a28.2.2 x2 x3 x4).bind fun y29 => 
cond y29 (
some (.inr (.inl z26))) (
some (.inl (IntKind.wrap .i64 (z26 + 1))))) (
some (.inr (.inr ())))
noncomputable def F45 (k : Nat) (x1 : (List (ByteArray × Bool × ByteArray))) (x2 : ByteArray) (x3 : Bool) (x4 : ByteArray) : Option Int :=
(loopN (L45_6 k x1 x2 x3 x4) k 0).bind fun y30 => 
sel (fun y31 =>
some y31) (fun y32 =>
some (-1)) y30
def A45 : CTpl := ⟨[.sl .u 1000000, .fn 46 [.pt 1000001 0]], [(1000000, .ar 31 (.str (.bool (.str .nil)))), (1000001, .bx 31 [.s, .b, .s])]⟩
def h45 : List HTy := [.tl (.str (.bool (.str .nil))), .ts, .tb, .ts]
def R45 : List RTpl := [⟨.i .i64, [], [.ti]⟩]
def n45 : An := .sq (.nd) (.sq (.sq (.nd) (.lp [0, 1, 7] [] ⟨[(8, .i .i64)], []⟩ [.ti] [(1, ⟨[(4, .i .i64)], []⟩), (2, ⟨[], []⟩)] [[.ti], []] (.nd))) (.nd))
theorem e45 (k : Nat) (y : Tup h45) : exec (P := Tryd.prog) D (lk rowsL) [C46 k] k (bodyOf Tryd.f45) n45 (fnE Tryd.f45 A45 [1000000, 1000001] (inOf A45 (ofTup h45 y))) (fnSt [1000000, 1000001] (inOf A45 (ofTup h45 y))) (leafR D (fnE Tryd.f45 A45 [1000000, 1000001] (inOf A45 (ofTup h45 y))) Tryd.f45.results.toList (R45.map (·.h)) R45) = F45 k y.1 y.2.1 y.2.2.1 y.2.2.2 := by kernel_rfl
noncomputable def C45 (k : Nat) : Con Tryd.prog := ⟨45, Tryd.f45, Tryd.func45, by kernel_rfl, by kernel_rfl, A45, h45, [1000000, 1000001], R45, fun y => F45 k y.1 y.2.1 y.2.2.1 y.2.2.2, fun y r h => con_ok good mixed (c := bodyOf Tryd.f45) Tryd.func45 (by kernel_rfl) n45 y ((e45 k y).trans h)⟩
noncomputable def F34 (k : Nat) (x1 : ByteArray) (x2 : Bool) (x3 : ByteArray) (x4 : (List (ByteArray × Int × Int))) (x5 : (List (ByteArray × Bool × ByteArray))) : Option (Int × (List (ByteArray × Int × Int)) × (List (ByteArray × Bool × ByteArray))) :=
(F44 k x1).bind fun y3 => 
cond (!y3) (
some (10, x4, x5)) (
cond (decide (48 < (x3.size : Int))) (
some (11, x4, x5)) (
(F45 k x5 x1 x2 x3).bind fun y5 => 
((cond (decide (0 ≤ y5)) (
(ix x5 y5).bind fun a9 =>
((x5[y5.toNat]?).bind fun a10 => some (x1, x2, x3)).bind fun a11 =>
some (.inl (x4, (x5.set y5.toNat a11)))) (
cond (decide (8 ≤ (x5.length : Int))) (
some (.inr (x4, x5))) (
grd (decide ((x5.length + [(x1, x2, x3)].length) * 40 ≤ 140737488355328)) <|
some (.inl (x4, (x5 ++ [(x1, x2, x3)]))))) : Option (((List (ByteArray × Int × Int)) × (List (ByteArray × Bool × ByteArray))) ⊕ ((List (ByteArray × Int × Int)) × (List (ByteArray × Bool × ByteArray)))))).bind fun y12 => 
sel (fun y13 =>
some (0, y13.1, y13.2)) (fun y14 =>
some (12, y14.1, y14.2)) y12))
def A34 : CTpl := ⟨[.pt 1000000 0, .ag [.s, .b, .s]], [(1000000, .bx 73 [.sl .u 1000001, .fz .u (.str (.int .u32 (.int .u32 .nil)))]), (1000001, .ar 31 (.str (.bool (.str .nil))))]⟩
def h34 : List HTy := [.ts, .tb, .ts, .tl (.str (.int .u32 (.int .u32 .nil))), .tl (.str (.bool (.str .nil)))]
def R34 : List RTpl := [⟨.i .i64, [(1000000, .bx 73 [.sl .u 500000, .fz .u (.str (.int .u32 (.int .u32 .nil)))]), (1000001, .gone), (500000, .ar 31 (.str (.bool (.str .nil))))], [.ti, .tl (.str (.int .u32 (.int .u32 .nil))), .tl (.str (.bool (.str .nil)))]⟩]
def n34 : An := .sq (.nd) (.sq (.nd) (.sq (.nd) (.sq (.nd) (.jn [] [] [(0, ⟨[], [(1000000, .bx 73 [.sl .u 301350, .fz .u (.str (.int .u32 (.int .u32 .nil)))]), (1000001, .gone), (301350, .ar 31 (.str (.bool (.str .nil))))]⟩), (1, ⟨[(4, .li .i64 12)], [(1000000, .bx 73 [.sl .u 1000001, .fz .u (.str (.int .u32 (.int .u32 .nil)))]), (1000001, .ar 31 (.str (.bool (.str .nil))))]⟩)] [[.tl (.str (.int .u32 (.int .u32 .nil))), .tl (.str (.bool (.str .nil)))], [.tl (.str (.int .u32 (.int .u32 .nil))), .tl (.str (.bool (.str .nil)))]] (.sq (.nd) (.sq (.mk [] [0, 1, 3, 7, 0, 0, 63, 127]) (.sq (.nd) (.sq (.nd) (.mk [] [0, 0, 2, 6, 14, 0, 32, 126, 255, 511, 1023]))))) (.nd)))))
theorem e34 (k : Nat) (hm : Mo.m = false) (y : Tup h34) : exec (P := Tryd.prog) D (lk rowsL) [C44 k hm, C45 k] k (bodyOf Tryd.f34) n34 (fnE Tryd.f34 A34 [] (inOf A34 (ofTup h34 y))) (fnSt [] (inOf A34 (ofTup h34 y))) (leafR D (fnE Tryd.f34 A34 [] (inOf A34 (ofTup h34 y))) Tryd.f34.results.toList (R34.map (·.h)) R34) = F34 k y.1 y.2.1 y.2.2.1 y.2.2.2.1 y.2.2.2.2 := by kernel_rfl
noncomputable def C34 (k : Nat) (hm : Mo.m = false) : Con Tryd.prog := ⟨34, Tryd.f34, Tryd.func34, by kernel_rfl, by kernel_rfl, A34, h34, [], R34, fun y => F34 k y.1 y.2.1 y.2.2.1 y.2.2.2.1 y.2.2.2.2, fun y r h => con_ok good mixed (c := bodyOf Tryd.f34) Tryd.func34 (by kernel_rfl) n34 y ((e34 k hm y).trans h)⟩
noncomputable def F14 (k : Nat) (x1 : ByteArray) (x2 : ByteArray) (x3 : (List (ByteArray × Int × Int))) (x4 : (List (ByteArray × Bool × ByteArray))) : Option (Int × (List (ByteArray × Int × Int)) × (List (ByteArray × Bool × ByteArray))) :=
(F34 k x1 false x2 x3 x4).bind fun y1 => 
some (y1.1, y1.2.1, y1.2.2)
def A14 : CTpl := ⟨[.pt 1000000 0, .s, .s], [(1000000, .bx 73 [.sl .u 1000001, .fz .u (.str (.int .u32 (.int .u32 .nil)))]), (1000001, .ar 31 (.str (.bool (.str .nil))))]⟩
def h14 : List HTy := [.ts, .ts, .tl (.str (.int .u32 (.int .u32 .nil))), .tl (.str (.bool (.str .nil)))]
def R14 : List RTpl := [⟨.i .i64, [(1000000, .bx 73 [.sl .u 500000, .fz .u (.str (.int .u32 (.int .u32 .nil)))]), (1000001, .gone), (500000, .ar 31 (.str (.bool (.str .nil))))], [.ti, .tl (.str (.int .u32 (.int .u32 .nil))), .tl (.str (.bool (.str .nil)))]⟩]
def n14 : An := .nd
theorem e14 (k : Nat) (hm : Mo.m = false) (y : Tup h14) : exec (P := Tryd.prog) D (lk rowsL) [C34 k hm] k (bodyOf Tryd.f14) n14 (fnE Tryd.f14 A14 [] (inOf A14 (ofTup h14 y))) (fnSt [] (inOf A14 (ofTup h14 y))) (leafR D (fnE Tryd.f14 A14 [] (inOf A14 (ofTup h14 y))) Tryd.f14.results.toList (R14.map (·.h)) R14) = F14 k y.1 y.2.1 y.2.2.1 y.2.2.2 := by kernel_rfl
noncomputable def C14 (k : Nat) (hm : Mo.m = false) : Con Tryd.prog := ⟨14, Tryd.f14, Tryd.func14, by kernel_rfl, by kernel_rfl, A14, h14, [], R14, fun y => F14 k y.1 y.2.1 y.2.2.1 y.2.2.2, fun y r h => con_ok good mixed (c := bodyOf Tryd.f14) Tryd.func14 (by kernel_rfl) n14 y ((e14 k hm y).trans h)⟩
noncomputable def F13 (k : Nat) (x1 : ByteArray) (x2 : (List (ByteArray × Int × Int))) (x3 : (List (ByteArray × Bool × ByteArray))) : Option (Int × (List (ByteArray × Int × Int)) × (List (ByteArray × Bool × ByteArray))) :=
(F34 k x1 true ByteArray.empty x2 x3).bind fun y1 => 
some (y1.1, y1.2.1, y1.2.2)
def A13 : CTpl := ⟨[.pt 1000000 0, .s], [(1000000, .bx 73 [.sl .u 1000001, .fz .u (.str (.int .u32 (.int .u32 .nil)))]), (1000001, .ar 31 (.str (.bool (.str .nil))))]⟩
def h13 : List HTy := [.ts, .tl (.str (.int .u32 (.int .u32 .nil))), .tl (.str (.bool (.str .nil)))]
def R13 : List RTpl := [⟨.i .i64, [(1000000, .bx 73 [.sl .u 500000, .fz .u (.str (.int .u32 (.int .u32 .nil)))]), (1000001, .gone), (500000, .ar 31 (.str (.bool (.str .nil))))], [.ti, .tl (.str (.int .u32 (.int .u32 .nil))), .tl (.str (.bool (.str .nil)))]⟩]
def n13 : An := .nd
theorem e13 (k : Nat) (hm : Mo.m = false) (y : Tup h13) : exec (P := Tryd.prog) D (lk rowsL) [C34 k hm] k (bodyOf Tryd.f13) n13 (fnE Tryd.f13 A13 [] (inOf A13 (ofTup h13 y))) (fnSt [] (inOf A13 (ofTup h13 y))) (leafR D (fnE Tryd.f13 A13 [] (inOf A13 (ofTup h13 y))) Tryd.f13.results.toList (R13.map (·.h)) R13) = F13 k y.1 y.2.1 y.2.2 := by kernel_rfl
noncomputable def C13 (k : Nat) (hm : Mo.m = false) : Con Tryd.prog := ⟨13, Tryd.f13, Tryd.func13, by kernel_rfl, by kernel_rfl, A13, h13, [], R13, fun y => F13 k y.1 y.2.1 y.2.2, fun y r h => con_ok good mixed (c := bodyOf Tryd.f13) Tryd.func13 (by kernel_rfl) n13 y ((e13 k hm y).trans h)⟩
noncomputable def F56 (k : Nat) (x1 : (List ByteArray)) : Option (List ByteArray) :=
nilT x1.isEmpty (
some ([] : List ByteArray)) (
grd (decide ((([] : List ByteArray).length + x1.length) * 16 ≤ 140737488355328)) <|
some (([] : List ByteArray) ++ x1))
def A56 : CTpl := ⟨[.fz .u (.str .nil)], []⟩
def h56 : List HTy := [.tl (.str .nil)]
def R56 : List RTpl := [⟨.sl .u 500000, [(500000, .ar 9 (.str .nil))], [.tl (.str .nil)]⟩]
def n56 : An := .nd
theorem e56 (k : Nat) (y : Tup h56) : exec (P := Tryd.prog) D (lk rowsL) [] k (bodyOf Tryd.f56) n56 (fnE Tryd.f56 A56 [] (inOf A56 (ofTup h56 y))) (fnSt [] (inOf A56 (ofTup h56 y))) (leafR D (fnE Tryd.f56 A56 [] (inOf A56 (ofTup h56 y))) Tryd.f56.results.toList (R56.map (·.h)) R56) = F56 k y := by kernel_rfl
noncomputable def C56 (k : Nat) : Con Tryd.prog := ⟨56, Tryd.f56, Tryd.func56, by kernel_rfl, by kernel_rfl, A56, h56, [], R56, fun y => F56 k y, fun y r h => con_ok good mixed (c := bodyOf Tryd.f56) Tryd.func56 (by kernel_rfl) n56 y ((e56 k y).trans h)⟩
noncomputable def L64_8 (k : Nat) (z3 : (ByteArray × Nat × (List Int))) : Option ((ByteArray × Nat × (List Int)) ⊕ (ByteArray × Nat × (List Int))) :=
cond (decide (z3.2.1 < z3.1.size)) (
grd (decide ((z3.2.2.length + [((Utf8.decode z3.1 z3.2.1).1 : Int)].length) * 4 ≤ 140737488355328)) <|
some (.inl (z3.1, (z3.2.1 + (Utf8.decode z3.1 z3.2.1).2), (z3.2.2 ++ [((Utf8.decode z3.1 z3.2.1).1 : Int)])))) (
some (.inr (z3.1, z3.2.1, z3.2.2)))
noncomputable def F64 (k : Nat) (x1 : ByteArray) : Option (List Int) :=
(loopN (L64_8 k) k (x1, 0, ([] : List Int))).bind fun y4 => 
some y4.2.2
def A64 : CTpl := ⟨[.s], []⟩
def h64 : List HTy := [.ts]
def R64 : List RTpl := [⟨.sl .u 500000, [(500000, .ar 21 (.int .i32 .nil))], [.tl (.int .i32 .nil)]⟩]
def n64 : An := .sq (.nd) (.sq (.nd) (.sq (.sq (.nd) (.lp [7] [] ⟨[(3, .sl .n 300400)], [(7, .si), (300400, .ar 21 (.int .i32 .nil))]⟩ [.ts, .tn, .tl (.int .i32 .nil)] [(2, ⟨[(3, .sl .n 300425)], [(7, .si), (300425, .ar 21 (.int .i32 .nil))]⟩)] [[.ts, .tn, .tl (.int .i32 .nil)]] (.nd))) (.nd)))
theorem e64 (k : Nat) (y : Tup h64) : exec (P := Tryd.prog) D (lk rowsL) [] k (bodyOf Tryd.f64) n64 (fnE Tryd.f64 A64 [] (inOf A64 (ofTup h64 y))) (fnSt [] (inOf A64 (ofTup h64 y))) (leafR D (fnE Tryd.f64 A64 [] (inOf A64 (ofTup h64 y))) Tryd.f64.results.toList (R64.map (·.h)) R64) = F64 k y := by kernel_rfl
noncomputable def C64 (k : Nat) : Con Tryd.prog := ⟨64, Tryd.f64, Tryd.func64, by kernel_rfl, by kernel_rfl, A64, h64, [], R64, fun y => F64 k y, fun y r h => con_ok good mixed (c := bodyOf Tryd.f64) Tryd.func64 (by kernel_rfl) n64 y ((e64 k y).trans h)⟩
noncomputable def F84 (k : Nat) (x1 : Int) : Option Bool :=
some (x1 != x1)
def A84 : CTpl := ⟨[.i .i32], []⟩
def h84 : List HTy := [.ti]
def R84 : List RTpl := [⟨.b, [], [.tb]⟩]
def n84 : An := .nd
theorem e84 (k : Nat) (y : Tup h84) : exec (P := Tryd.prog) D (lk rowsL) [] k (bodyOf Tryd.f84) n84 (fnE Tryd.f84 A84 [] (inOf A84 (ofTup h84 y))) (fnSt [] (inOf A84 (ofTup h84 y))) (leafR D (fnE Tryd.f84 A84 [] (inOf A84 (ofTup h84 y))) Tryd.f84.results.toList (R84.map (·.h)) R84) = F84 k y := by kernel_rfl
noncomputable def C84 (k : Nat) : Con Tryd.prog := ⟨84, Tryd.f84, Tryd.func84, by kernel_rfl, by kernel_rfl, A84, h84, [], R84, fun y => F84 k y, fun y r h => con_ok good mixed (c := bodyOf Tryd.f84) Tryd.func84 (by kernel_rfl) n84 y ((e84 k y).trans h)⟩
noncomputable def F77 (k : Nat) (x1 : Int) (x2 : Int) : Option Int :=
(F84 k x1).bind fun y2 => 
(F84 k x2).bind fun y4 => 
cond y2 (
cond y4 (
some 0) (
some (-1))) (
cond y4 (
some 1) (
cond (decide (x1 < x2)) (
some (-1)) (
cond (decide (x2 < x1)) (
some 1) (
some 0))))
def A77 : CTpl := ⟨[.i .i32, .i .i32], []⟩
def h77 : List HTy := [.ti, .ti]
def R77 : List RTpl := [⟨.i .i64, [], [.ti]⟩]
def n77 : An := .nd
theorem e77 (k : Nat) (y : Tup h77) : exec (P := Tryd.prog) D (lk rowsL) [C84 k] k (bodyOf Tryd.f77) n77 (fnE Tryd.f77 A77 [] (inOf A77 (ofTup h77 y))) (fnSt [] (inOf A77 (ofTup h77 y))) (leafR D (fnE Tryd.f77 A77 [] (inOf A77 (ofTup h77 y))) Tryd.f77.results.toList (R77.map (·.h)) R77) = F77 k y.1 y.2 := by kernel_rfl
noncomputable def C77 (k : Nat) : Con Tryd.prog := ⟨77, Tryd.f77, Tryd.func77, by kernel_rfl, by kernel_rfl, A77, h77, [], R77, fun y => F77 k y.1 y.2, fun y r h => con_ok good mixed (c := bodyOf Tryd.f77) Tryd.func77 (by kernel_rfl) n77 y ((e77 k y).trans h)⟩
noncomputable def L65_6 (k : Nat) (x1 : (List Int)) (x2 : (List Int)) (z27 : Int) : Option (Int ⊕ (Int ⊕ Unit)) :=
cond (decide (z27 < (x1.length : Int))) (
(ix x1 z27).bind fun a28 =>
cond (decide ((x2.length : Int) ≤ z27)) (
some (.inr (.inl 1))) (
(ix x2 z27).bind fun a29 =>
(x2[z27.toNat]?).bind fun a30 =>
(F77 k a28 a30).bind fun y31 => 
cond (y31 != 0) (
some (.inr (.inl y31))) (
some (.inl (IntKind.wrap .i64 (z27 + 1)))))) (
some (.inr (.inr ())))
noncomputable def F65 (k : Nat) (x1 : (List Int)) (x2 : (List Int)) : Option Int :=
(loopN (L65_6 k x1 x2) k 0).bind fun y32 => 
sel (fun y33 =>
some y33) (fun y34 =>
cond (decide ((x1.length : Int) < (x2.length : Int))) (
some (-1)) (
some 0)) y32
def A65 : CTpl := ⟨[.fz .u (.int .i32 .nil), .sl .u 1000000], [(1000000, .ar 21 (.int .i32 .nil))]⟩
def h65 : List HTy := [.tl (.int .i32 .nil), .tl (.int .i32 .nil)]
def R65 : List RTpl := [⟨.i .i64, [], [.ti]⟩]
def n65 : An := .sq (.nd) (.sq (.sq (.nd) (.lp [0, 1, 9, 10] [] ⟨[(11, .i .i64)], []⟩ [.ti] [(1, ⟨[(4, .i .i64)], []⟩), (2, ⟨[], []⟩)] [[.ti], []] (.nd))) (.nd))
theorem e65 (k : Nat) (y : Tup h65) : exec (P := Tryd.prog) D (lk rowsL) [C77 k] k (bodyOf Tryd.f65) n65 (fnE Tryd.f65 A65 [1000000] (inOf A65 (ofTup h65 y))) (fnSt [1000000] (inOf A65 (ofTup h65 y))) (leafR D (fnE Tryd.f65 A65 [1000000] (inOf A65 (ofTup h65 y))) Tryd.f65.results.toList (R65.map (·.h)) R65) = F65 k y.1 y.2 := by kernel_rfl
noncomputable def C65 (k : Nat) : Con Tryd.prog := ⟨65, Tryd.f65, Tryd.func65, by kernel_rfl, by kernel_rfl, A65, h65, [1000000], R65, fun y => F65 k y.1 y.2, fun y r h => con_ok good mixed (c := bodyOf Tryd.f65) Tryd.func65 (by kernel_rfl) n65 y ((e65 k y).trans h)⟩
noncomputable def L65_1_6 (k : Nat) (x1 : (List Int)) (x2 : (List Int)) (z22 : Int) : Option (Int ⊕ (Int ⊕ Unit)) :=
cond (decide (z22 < (x1.length : Int))) (
(ix x1 z22).bind fun a23 =>
cond (decide ((x2.length : Int) ≤ z22)) (
some (.inr (.inl 1))) (
(ix x2 z22).bind fun a24 =>
(F77 k a23 a24).bind fun y25 => 
cond (y25 != 0) (
some (.inr (.inl y25))) (
some (.inl (IntKind.wrap .i64 (z22 + 1)))))) (
some (.inr (.inr ())))
noncomputable def F65_1 (k : Nat) (x1 : (List Int)) (x2 : (List Int)) : Option Int :=
(loopN (L65_1_6 k x1 x2) k 0).bind fun y26 => 
sel (fun y27 =>
some y27) (fun y28 =>
cond (decide ((x1.length : Int) < (x2.length : Int))) (
some (-1)) (
some 0)) y26
def A65_1 : CTpl := ⟨[.fz .u (.int .i32 .nil), .fz .u (.int .i32 .nil)], []⟩
def h65_1 : List HTy := [.tl (.int .i32 .nil), .tl (.int .i32 .nil)]
def R65_1 : List RTpl := [⟨.i .i64, [], [.ti]⟩]
def n65_1 : An := .sq (.nd) (.sq (.sq (.nd) (.lp [0, 1, 9, 10] [] ⟨[(11, .i .i64)], []⟩ [.ti] [(1, ⟨[(4, .i .i64)], []⟩), (2, ⟨[], []⟩)] [[.ti], []] (.nd))) (.nd))
theorem e65_1 (k : Nat) (y : Tup h65_1) : exec (P := Tryd.prog) D (lk rowsL) [C77 k] k (bodyOf Tryd.f65) n65_1 (fnE Tryd.f65 A65_1 [] (inOf A65_1 (ofTup h65_1 y))) (fnSt [] (inOf A65_1 (ofTup h65_1 y))) (leafR D (fnE Tryd.f65 A65_1 [] (inOf A65_1 (ofTup h65_1 y))) Tryd.f65.results.toList (R65_1.map (·.h)) R65_1) = F65_1 k y.1 y.2 := by kernel_rfl
noncomputable def C65_1 (k : Nat) : Con Tryd.prog := ⟨65, Tryd.f65, Tryd.func65, by kernel_rfl, by kernel_rfl, A65_1, h65_1, [], R65_1, fun y => F65_1 k y.1 y.2, fun y r h => con_ok good mixed (c := bodyOf Tryd.f65) Tryd.func65 (by kernel_rfl) n65_1 y ((e65_1 k y).trans h)⟩
noncomputable def F59 (k : Nat) (x1 : ByteArray) (x2 : ByteArray) : Option Int :=
(F64 k x1).bind fun y3 => 
(F64 k x2).bind fun y4 => 
(F65_1 k y3 y4).bind fun y5 => 
some y5
def A59 : CTpl := ⟨[.s, .s], []⟩
def h59 : List HTy := [.ts, .ts]
def R59 : List RTpl := [⟨.i .i64, [], [.ti]⟩]
def n59 : An := .sq (.nd) (.sq (.nd) (.sq (.fr [(2, 400800), (2, 401000)]) (.nd)))
theorem e59 (k : Nat) (y : Tup h59) : exec (P := Tryd.prog) D (lk rowsL) [C64 k, C65_1 k] k (bodyOf Tryd.f59) n59 (fnE Tryd.f59 A59 [] (inOf A59 (ofTup h59 y))) (fnSt [] (inOf A59 (ofTup h59 y))) (leafR D (fnE Tryd.f59 A59 [] (inOf A59 (ofTup h59 y))) Tryd.f59.results.toList (R59.map (·.h)) R59) = F59 k y.1 y.2 := by kernel_rfl
noncomputable def C59 (k : Nat) : Con Tryd.prog := ⟨59, Tryd.f59, Tryd.func59, by kernel_rfl, by kernel_rfl, A59, h59, [], R59, fun y => F59 k y.1 y.2, fun y r h => con_ok good mixed (c := bodyOf Tryd.f59) Tryd.func59 (by kernel_rfl) n59 y ((e59 k y).trans h)⟩
noncomputable def F60 (k : Nat) (x1 : ByteArray) (x2 : ByteArray) : Option Int :=
some (Go.Lib.compareBytes x1.data.toList x2.data.toList)
def A60 : CTpl := ⟨[.s, .s], []⟩
def h60 : List HTy := [.ts, .ts]
def R60 : List RTpl := [⟨.i .i64, [], [.ti]⟩]
def n60 : An := .nd
noncomputable def C60 (k : Nat) : Con Tryd.prog := ⟨60, Tryd.f60, Tryd.func60, by kernel_rfl, by kernel_rfl, A60, h60, [], R60, fun y => F60 k y.1 y.2, fun y r h => by
  have h2 : some (Go.Lib.compareBytes y.1.data.toList y.2.data.toList) = some r := h
  cases h2
  exact CTx.lib (vs := [.string y.1, .string y.2]) rfl (fun _ _ _ => .t _ _ (.sc _ rfl)) fun w _ => (Tryd.strings_Compare y.1 y.2 w).mono fun e w2 g => ⟨g.1, by rw [g.2]; exact Below.refl _ _, fun _ => by rw [g.2]; exact Nat.le_refl _⟩⟩
noncomputable def F58 (k : Nat) (x1 : ByteArray) (x2 : ByteArray) : Option Int :=
(F59 k x1 x2).bind fun y3 => 
cond (y3 != 0) (
some y3) (
(F60 k x1 x2).bind fun y4 => 
some y4)
def A58 : CTpl := ⟨[.s, .s], []⟩
def h58 : List HTy := [.ts, .ts]
def R58 : List RTpl := [⟨.i .i64, [], [.ti]⟩]
def n58 : An := .nd
theorem e58 (k : Nat) (y : Tup h58) : exec (P := Tryd.prog) D (lk rowsL) [C59 k, C60 k] k (bodyOf Tryd.f58) n58 (fnE Tryd.f58 A58 [] (inOf A58 (ofTup h58 y))) (fnSt [] (inOf A58 (ofTup h58 y))) (leafR D (fnE Tryd.f58 A58 [] (inOf A58 (ofTup h58 y))) Tryd.f58.results.toList (R58.map (·.h)) R58) = F58 k y.1 y.2 := by kernel_rfl
noncomputable def C58 (k : Nat) : Con Tryd.prog := ⟨58, Tryd.f58, Tryd.func58, by kernel_rfl, by kernel_rfl, A58, h58, [], R58, fun y => F58 k y.1 y.2, fun y r h => con_ok good mixed (c := bodyOf Tryd.f58) Tryd.func58 (by kernel_rfl) n58 y ((e58 k y).trans h)⟩
noncomputable def F57 (k : Nat) (x1 : (List ByteArray)) : Option (List ByteArray) :=
sortF (F58 k) x1
def A57 : CTpl := ⟨[.sl .u 1000000, .c (.func (.func 58) #[] #[])], [(1000000, .ar 9 (.str .nil))]⟩
def h57 : List HTy := [.tl (.str .nil)]
def R57 : List RTpl := [⟨.tp [], [(1000000, .ar 9 (.str .nil))], [.tl (.str .nil)]⟩]
def n57 : An := .nd
noncomputable def C57 (k : Nat) : Con Tryd.prog := ⟨57, Tryd.f57, Tryd.func57, by kernel_rfl, by kernel_rfl, A57, h57, [], R57, fun y => F57 k y, fun y r h => by
  have h2 : sortF (F58 k) y = some r := h
  exact CTx.sortFunc (ρ := Tryd.laysSlF6_f57_ren) Tryd.laysSlF6_f57 { Tryd.laysSlF6_f57 with } (enters Tryd.func58 (by kernel_rfl) (by kernel_rfl)) (fun a b n g => @Con.ok ⟨true⟩ _ (@C58 ⟨true⟩ k) (a, b) n g) 9 h2⟩
noncomputable def L61_32 (k : Nat) (z156 : (Int × (List ByteArray))) (z161 : (Int × Int × (List ByteArray))) : Option ((Int × Int × (List ByteArray)) ⊕ (Int × (List ByteArray))) :=
cond (decide (z161.2.1 < (((((z156.2.length : Int).toNat) - z156.1.toNat) : Nat) : Int))) (
((grd (decide (0 ≤ z161.2.1 ∧ z161.2.1 < (((((z156.2.length : Int).toNat) - z156.1.toNat) : Nat) : Int))) <|
(z161.2.2[(z156.1.toNat + z161.2.1.toNat)]?).bind fun a162 =>
grd (decide (0 ≤ (IntKind.wrap .i64 (z161.2.1 - 1)) ∧ (IntKind.wrap .i64 (z161.2.1 - 1)) < (((((z156.2.length : Int).toNat) - z156.1.toNat) : Nat) : Int))) <|
(z161.2.2[(z156.1.toNat + ((IntKind.wrap .i64 (z161.2.1 - 1)).toNat))]?).bind fun a163 =>
cond (!(a162.toList == a163.toList)) (
grd (decide (0 ≤ z161.2.1 ∧ z161.2.1 < (((((z156.2.length : Int).toNat) - z156.1.toNat) : Nat) : Int))) <|
(z161.2.2[(z156.1.toNat + z161.2.1.toNat)]?).bind fun a164 =>
(ix z161.2.2 z161.1).bind fun a165 =>
((z161.2.2[z161.1.toNat]?).bind fun a166 => some a164).bind fun a167 =>
some ((IntKind.wrap .i64 (z161.1 + 1)), (z161.2.2.set z161.1.toNat a167))) (
some (z161.1, z161.2.2)) : Option (Int × (List ByteArray)))).bind fun y168 => 
some (.inl (y168.1, (IntKind.wrap .i64 (z161.2.1 + 1)), y168.2))) (
some (.inr (z161.1, z161.2.2)))
noncomputable def L61_14 (k : Nat) (z156 : (Int × (List ByteArray))) : Option ((Int × (List ByteArray)) ⊕ ((Nat × Nat × (List ByteArray)) ⊕ (List ByteArray))) :=
cond (decide (z156.1 < (z156.2.length : Int))) (
(ix z156.2 z156.1).bind fun a157 =>
(z156.2[z156.1.toNat]?).bind fun a158 =>
(ix z156.2 (IntKind.wrap .i64 (z156.1 - 1))).bind fun a159 =>
(z156.2[(IntKind.wrap .i64 (z156.1 - 1)).toNat]?).bind fun a160 =>
cond (a158.toList == a160.toList) (
grd (bnds (z156.2.length : Int) z156.1 (z156.2.length : Int)) <|
(loopN (L61_32 k z156) k (z156.1, 1, z156.2)).bind fun y169 => 
grd (bnds (y169.2.length : Int) y169.1 (y169.2.length : Int)) <|
grd (bnds ((y169.2.take y169.1.toNat ++ List.replicate (((y169.2.length : Int).toNat) - y169.1.toNat) ByteArray.empty ++ y169.2.drop (y169.1.toNat + (((y169.2.length : Int).toNat) - y169.1.toNat))).length : Int) 0 y169.1) <|
some (.inr (.inl (0, (y169.1.toNat - 0), (y169.2.take y169.1.toNat ++ List.replicate (((y169.2.length : Int).toNat) - y169.1.toNat) ByteArray.empty ++ y169.2.drop (y169.1.toNat + (((y169.2.length : Int).toNat) - y169.1.toNat))))))) (
some (.inl ((IntKind.wrap .i64 (z156.1 + 1)), z156.2)))) (
some (.inr (.inr z156.2)))
noncomputable def F61 (k : Nat) (x1 : (List ByteArray)) : Option (List ByteArray) :=
cond (decide ((x1.length : Int) < 2)) (
some x1) (
(loopN (L61_14 k) k (1, x1)).bind fun y170 => 
sel (fun y171 =>
some ((y171.2.2.drop y171.1).take y171.2.1)) (fun y172 =>
some y172) y170)
def A61 : CTpl := ⟨[.sl .u 1000000], [(1000000, .ar 9 (.str .nil))]⟩
def h61 : List HTy := [.tl (.str .nil)]
def R61 : List RTpl := [⟨.fz .u (.str .nil), [(1000000, .gone)], [.tl (.str .nil)]⟩]
def n61 : An := .sq (.nd) (.sq (.nd) (.sq (.sq (.nd) (.lp [0] [] ⟨[(3, .i .i64)], [(1000000, .ar 9 (.str .nil))]⟩ [.ti, .tl (.str .nil)] [(1, ⟨[(2, .sw 1000000)], [(1000000, .ar 9 (.str .nil))]⟩), (2, ⟨[], [(1000000, .ar 9 (.str .nil))]⟩)] [[.tn, .tn, .tl (.str .nil)], [.tl (.str .nil)]] (.sq (.nd) (.sq (.sq (.mk [] [0, 0, 3, 7, 0, 0, 32, 112, 240, 511]) (.sq (.sq (.nd) (.sq (.sq (.nd) (.lp [4] [] ⟨[(3, .i .i64), (5, .i .i64)], [(1000000, .ar 9 (.str .nil))]⟩ [.ti, .ti, .tl (.str .nil)] [(4, ⟨[(3, .i .i64)], [(1000000, .ar 9 (.str .nil))]⟩)] [[.ti, .tl (.str .nil)]] (.sq (.nd) (.jn [5] [] [(0, ⟨[(3, .i .i64)], [(1000000, .ar 9 (.str .nil))]⟩)] [[.ti, .tl (.str .nil)]] (.sq (.mk [] [0, 0, 3, 7, 0, 0, 32, 112, 240, 511]) (.nd)) (.nd))))) (.nd))) (.nd))) (.nd))))) (.nd)))
theorem e61 (k : Nat) (y : Tup h61) : exec (P := Tryd.prog) D (lk rowsL) [] k (bodyOf Tryd.f61) n61 (fnE Tryd.f61 A61 [] (inOf A61 (ofTup h61 y))) (fnSt [] (inOf A61 (ofTup h61 y))) (leafR D (fnE Tryd.f61 A61 [] (inOf A61 (ofTup h61 y))) Tryd.f61.results.toList (R61.map (·.h)) R61) = F61 k y := by kernel_rfl
noncomputable def C61 (k : Nat) : Con Tryd.prog := ⟨61, Tryd.f61, Tryd.func61, by kernel_rfl, by kernel_rfl, A61, h61, [], R61, fun y => F61 k y, fun y r h => con_ok good mixed (c := bodyOf Tryd.f61) Tryd.func61 (by kernel_rfl) n61 y ((e61 k y).trans h)⟩
noncomputable def F52 (k : Nat) (x1 : (List ByteArray)) : Option (List ByteArray) :=
(F56 k x1).bind fun y2 => 
(F57 k y2).bind fun y4 => 
(F61 k y4).bind fun y5 => 
some y5
def A52 : CTpl := ⟨[.fz .u (.str .nil)], []⟩
def h52 : List HTy := [.tl (.str .nil)]
def R52 : List RTpl := [⟨.fz .u (.str .nil), [], [.tl (.str .nil)]⟩]
def n52 : An := .nd
theorem e52 (k : Nat) (y : Tup h52) : exec (P := Tryd.prog) D (lk rowsL) [C56 k, C57 k, C61 k] k (bodyOf Tryd.f52) n52 (fnE Tryd.f52 A52 [] (inOf A52 (ofTup h52 y))) (fnSt [] (inOf A52 (ofTup h52 y))) (leafR D (fnE Tryd.f52 A52 [] (inOf A52 (ofTup h52 y))) Tryd.f52.results.toList (R52.map (·.h)) R52) = F52 k y := by kernel_rfl
noncomputable def C52 (k : Nat) : Con Tryd.prog := ⟨52, Tryd.f52, Tryd.func52, by kernel_rfl, by kernel_rfl, A52, h52, [], R52, fun y => F52 k y, fun y r h => con_ok good mixed (c := bodyOf Tryd.f52) Tryd.func52 (by kernel_rfl) n52 y ((e52 k y).trans h)⟩
noncomputable def L48_8 (k : Nat) (x1 : (List (ByteArray × Bool × ByteArray))) (z13 : (Int × (List ByteArray))) : Option ((Int × (List ByteArray)) ⊕ (List ByteArray)) :=
cond (decide (z13.1 < (x1.length : Int))) (
(ix x1 z13.1).bind fun a14 =>
(x1[z13.1.toNat]?).bind fun a15 =>
grd (decide ((z13.2.length + [a15.1].length) * 16 ≤ 140737488355328)) <|
some (.inl ((IntKind.wrap .i64 (z13.1 + 1)), (z13.2 ++ [a15.1])))) (
some (.inr z13.2))
noncomputable def F48 (k : Nat) (x1 : (List (ByteArray × Bool × ByteArray))) : Option (List ByteArray) :=
(loopN (L48_8 k x1) k (0, ([] : List ByteArray))).bind fun y16 => 
(F52 k y16).bind fun y17 => 
some y17
def A48 : CTpl := ⟨[.sl .u 1000000], [(1000000, .ar 31 (.str (.bool (.str .nil))))]⟩
def h48 : List HTy := [.tl (.str (.bool (.str .nil)))]
def R48 : List RTpl := [⟨.fz .u (.str .nil), [], [.tl (.str .nil)]⟩]
def n48 : An := .sq (.nd) (.sq (.nd) (.sq (.sq (.nd) (.lp [6, 7] [] ⟨[(3, .sl .n 300400), (8, .i .i64)], [(300400, .ar 9 (.str .nil))]⟩ [.ti, .tl (.str .nil)] [(2, ⟨[(3, .sl .n 300425)], [(300425, .ar 9 (.str .nil))]⟩)] [[.tl (.str .nil)]] (.nd))) (.sq (.fr [(1, 300425)]) (.nd))))
theorem e48 (k : Nat) (y : Tup h48) : exec (P := Tryd.prog) D (lk rowsL) [C52 k] k (bodyOf Tryd.f48) n48 (fnE Tryd.f48 A48 [1000000] (inOf A48 (ofTup h48 y))) (fnSt [1000000] (inOf A48 (ofTup h48 y))) (leafR D (fnE Tryd.f48 A48 [1000000] (inOf A48 (ofTup h48 y))) Tryd.f48.results.toList (R48.map (·.h)) R48) = F48 k y := by kernel_rfl
noncomputable def C48 (k : Nat) : Con Tryd.prog := ⟨48, Tryd.f48, Tryd.func48, by kernel_rfl, by kernel_rfl, A48, h48, [1000000], R48, fun y => F48 k y, fun y r h => con_ok good mixed (c := bodyOf Tryd.f48) Tryd.func48 (by kernel_rfl) n48 y ((e48 k y).trans h)⟩
noncomputable def L43_6 (k : Nat) (x1 : ByteArray) (x2 : (List (ByteArray × Bool × ByteArray))) (z21 : (Int × ByteArray × ByteArray)) : Option ((Int × ByteArray × ByteArray) ⊕ ((ByteArray × Bool × ByteArray) ⊕ (ByteArray × ByteArray))) :=
cond (decide (0 ≤ z21.1)) (
(ix x2 z21.1).bind fun a22 =>
(x2[z21.1.toNat]?).bind fun a23 =>
cond (a23.1.toList == x1.toList) (
(ix x2 z21.1).bind fun a24 =>
(x2[z21.1.toNat]?).bind fun a25 =>
some (.inr (.inl (a25.1, a25.2.1, a25.2.2)))) (
some (.inl ((IntKind.wrap .i64 (z21.1 - 1)), z21.2.1, z21.2.2)))) (
some (.inr (.inr (z21.2.1, z21.2.2))))
noncomputable def F43 (k : Nat) (x1 : ByteArray) (x2 : (List (ByteArray × Bool × ByteArray))) : Option (ByteArray × Bool × ByteArray × Bool) :=
(loopN (L43_6 k x1 x2) k ((IntKind.wrap .i64 ((x2.length : Int) - 1)), ByteArray.empty, ByteArray.empty)).bind fun y26 => 
sel (fun y27 =>
some (y27.1, y27.2.1, y27.2.2, true)) (fun y28 =>
some (ByteArray.empty, false, ByteArray.empty, false)) y26
def A43 : CTpl := ⟨[.sl .u 1000000, .s], [(1000000, .ar 31 (.str (.bool (.str .nil))))]⟩
def h43 : List HTy := [.ts, .tl (.str (.bool (.str .nil)))]
def R43 : List RTpl := [⟨.tp [.ag [.s, .b, .s], .b], [], [.ts, .tb, .ts, .tb]⟩]
def n43 : An := .sq (.nd) (.sq (.sq (.nd) (.lp [0, 1, 4] [] ⟨[(6, .i .i64)], [(4, .bx 31 [.s, .lb false, .s])]⟩ [.ti, .ts, .ts] [(1, ⟨[(5, .lb true)], [(4, .bx 31 [.s, .b, .s])]⟩), (2, ⟨[], [(4, .bx 31 [.s, .lb false, .s])]⟩)] [[.ts, .tb, .ts], [.ts, .ts]] (.nd))) (.nd))
theorem e43 (k : Nat) (y : Tup h43) : exec (P := Tryd.prog) D (lk rowsL) [] k (bodyOf Tryd.f43) n43 (fnE Tryd.f43 A43 [1000000] (inOf A43 (ofTup h43 y))) (fnSt [1000000] (inOf A43 (ofTup h43 y))) (leafR D (fnE Tryd.f43 A43 [1000000] (inOf A43 (ofTup h43 y))) Tryd.f43.results.toList (R43.map (·.h)) R43) = F43 k y.1 y.2 := by kernel_rfl
noncomputable def C43 (k : Nat) : Con Tryd.prog := ⟨43, Tryd.f43, Tryd.func43, by kernel_rfl, by kernel_rfl, A43, h43, [1000000], R43, fun y => F43 k y.1 y.2, fun y r h => con_ok good mixed (c := bodyOf Tryd.f43) Tryd.func43 (by kernel_rfl) n43 y ((e43 k y).trans h)⟩
noncomputable def L36_8 (k : Nat) (x1 : (List (ByteArray × Bool × ByteArray))) (y22 : (List ByteArray)) (z23 : (Int × (List (ByteArray × Bool × ByteArray)))) : Option ((Int × (List (ByteArray × Bool × ByteArray))) ⊕ (List (ByteArray × Bool × ByteArray))) :=
cond (decide (z23.1 < (y22.length : Int))) (
(ix y22 z23.1).bind fun a24 =>
(F43 k a24 x1).bind fun y25 => 
((cond y25.2.1 (
some (y25.1, y25.2.1, (⟨#[]⟩ : ByteArray))) (
some (y25.1, y25.2.1, y25.2.2.1)) : Option (ByteArray × Bool × ByteArray))).bind fun y26 => 
grd (decide ((z23.2.length + [(y26.1, y26.2.1, y26.2.2)].length) * 40 ≤ 140737488355328)) <|
some (.inl ((IntKind.wrap .i64 (z23.1 + 1)), (z23.2 ++ [(y26.1, y26.2.1, y26.2.2)])))) (
some (.inr z23.2))
noncomputable def F36 (k : Nat) (x1 : (List (ByteArray × Bool × ByteArray))) : Option (List (ByteArray × Bool × ByteArray)) :=
(F48 k x1).bind fun y22 => 
(loopN (L36_8 k x1 y22) k (0, ([] : List (ByteArray × Bool × ByteArray)))).bind fun y27 => 
some y27
def A36 : CTpl := ⟨[.sl .u 1000000], [(1000000, .ar 31 (.str (.bool (.str .nil))))]⟩
def h36 : List HTy := [.tl (.str (.bool (.str .nil)))]
def R36 : List RTpl := [⟨.sl .u 500000, [(500000, .ar 31 (.str (.bool (.str .nil))))], [.tl (.str (.bool (.str .nil)))]⟩]
def n36 : An := .sq (.nd) (.sq (.nd) (.sq (.sq (.nd) (.lp [0, 9, 10] [] ⟨[(3, .sl .n 300400), (11, .i .i64)], [(300400, .ar 31 (.str (.bool (.str .nil))))]⟩ [.ti, .tl (.str (.bool (.str .nil)))] [(2, ⟨[(3, .sl .n 300425)], [(300425, .ar 31 (.str (.bool (.str .nil))))]⟩)] [[.tl (.str (.bool (.str .nil)))]] (.sq (.nd) (.sq (.nd) (.sq (.sq (.nd) (.sq (.nd) (.jn [3, 6, 11] [300400] [(0, ⟨[], [(6, .bx 31 [.s, .b, .s])]⟩)] [[.ts, .tb, .ts]] (.nd) (.nd)))) (.nd)))))) (.nd)))
theorem e36 (k : Nat) (y : Tup h36) : exec (P := Tryd.prog) D (lk rowsL) [C48 k, C43 k] k (bodyOf Tryd.f36) n36 (fnE Tryd.f36 A36 [1000000] (inOf A36 (ofTup h36 y))) (fnSt [1000000] (inOf A36 (ofTup h36 y))) (leafR D (fnE Tryd.f36 A36 [1000000] (inOf A36 (ofTup h36 y))) Tryd.f36.results.toList (R36.map (·.h)) R36) = F36 k y := by kernel_rfl
noncomputable def C36 (k : Nat) : Con Tryd.prog := ⟨36, Tryd.f36, Tryd.func36, by kernel_rfl, by kernel_rfl, A36, h36, [1000000], R36, fun y => F36 k y, fun y r h => con_ok good mixed (c := bodyOf Tryd.f36) Tryd.func36 (by kernel_rfl) n36 y ((e36 k y).trans h)⟩
noncomputable def F18 (k : Nat) (x1 : (List (ByteArray × Int × Int))) (x2 : (List (ByteArray × Bool × ByteArray))) : Option (List (ByteArray × Bool × ByteArray)) :=
(F36 k x2).bind fun y1 => 
some y1
def A18 : CTpl := ⟨[.pt 1000000 0], [(1000000, .bx 73 [.sl .u 1000001, .fz .u (.str (.int .u32 (.int .u32 .nil)))]), (1000001, .ar 31 (.str (.bool (.str .nil))))]⟩
def h18 : List HTy := [.tl (.str (.int .u32 (.int .u32 .nil))), .tl (.str (.bool (.str .nil)))]
def R18 : List RTpl := [⟨.sl .u 500000, [(500000, .ar 31 (.str (.bool (.str .nil))))], [.tl (.str (.bool (.str .nil)))]⟩]
def n18 : An := .nd
theorem e18 (k : Nat) (y : Tup h18) : exec (P := Tryd.prog) D (lk rowsL) [C36 k] k (bodyOf Tryd.f18) n18 (fnE Tryd.f18 A18 [1000000, 1000001] (inOf A18 (ofTup h18 y))) (fnSt [1000000, 1000001] (inOf A18 (ofTup h18 y))) (leafR D (fnE Tryd.f18 A18 [1000000, 1000001] (inOf A18 (ofTup h18 y))) Tryd.f18.results.toList (R18.map (·.h)) R18) = F18 k y.1 y.2 := by kernel_rfl
noncomputable def C18 (k : Nat) : Con Tryd.prog := ⟨18, Tryd.f18, Tryd.func18, by kernel_rfl, by kernel_rfl, A18, h18, [1000000, 1000001], R18, fun y => F18 k y.1 y.2, fun y r h => con_ok good mixed (c := bodyOf Tryd.f18) Tryd.func18 (by kernel_rfl) n18 y ((e18 k y).trans h)⟩
noncomputable def F10 (k : Nat) : Option Bool :=
(F9 k).bind fun y2 => 
(F14 k (⟨#[97]⟩ : ByteArray) (⟨#[49]⟩ : ByteArray) y2.1 y2.2).bind fun y5 => 
(F13 k (⟨#[97]⟩ : ByteArray) y5.2.1 y5.2.2).bind fun y6 => 
(F18 k y6.2.1 y6.2.2).bind fun y8 => 
cond (y5.1 == 0) (
cond (y6.1 == 0) (
cond ((y8.length : Int) == 1) (
(ix y8 0).bind fun a9 =>
(y8[0]?).bind fun a10 =>
some ((a10.1.toList == (⟨#[97]⟩ : ByteArray).toList) && ((a10.2.1 == true) && ((a10.2.2.toList == ByteArray.empty.toList) && true)))) (
some false)) (
some false)) (
some false)
def A10 : CTpl := ⟨[], []⟩
def h10 : List HTy := []
def R10 : List RTpl := [⟨.b, [], [.tb]⟩]
def n10 : An := .nd
theorem e10 (k : Nat) (hm : Mo.m = false) (y : Tup h10) : exec (P := Tryd.prog) D (lk rowsL) [C9 k, C14 k hm, C13 k hm, C18 k] k (bodyOf Tryd.f10) n10 (fnE Tryd.f10 A10 [] (inOf A10 (ofTup h10 y))) (fnSt [] (inOf A10 (ofTup h10 y))) (leafR D (fnE Tryd.f10 A10 [] (inOf A10 (ofTup h10 y))) Tryd.f10.results.toList (R10.map (·.h)) R10) = F10 k := by kernel_rfl
noncomputable def C10 (k : Nat) (hm : Mo.m = false) : Con Tryd.prog := ⟨10, Tryd.f10, Tryd.func10, by kernel_rfl, by kernel_rfl, A10, h10, [], R10, fun y => F10 k, fun y r h => con_ok good mixed (c := bodyOf Tryd.f10) Tryd.func10 (by kernel_rfl) n10 y ((e10 k hm y).trans h)⟩
noncomputable def F53 (k : Nat) (x1 : ByteArray) (x2 : Int) (x3 : Int) (x4 : Int) : Option Bool :=
cond (decide (x2 < (x1.size : Int))) (
grd (decide (0 ≤ x2 ∧ x2 < (x1.size : Int))) <|
cond (decide (x3 ≤ (bt x1 x2))) (
grd (decide (0 ≤ x2 ∧ x2 < (x1.size : Int))) <|
some (decide ((bt x1 x2) ≤ x4))) (
some false)) (
some false)
def A53 : CTpl := ⟨[.s, .i .i64, .i .u8, .i .u8], []⟩
def h53 : List HTy := [.ts, .ti, .ti, .ti]
def R53 : List RTpl := [⟨.b, [], [.tb]⟩]
def n53 : An := .nd
theorem e53 (k : Nat) (y : Tup h53) : exec (P := Tryd.prog) D (lk rowsL) [] k (bodyOf Tryd.f53) n53 (fnE Tryd.f53 A53 [] (inOf A53 (ofTup h53 y))) (fnSt [] (inOf A53 (ofTup h53 y))) (leafR D (fnE Tryd.f53 A53 [] (inOf A53 (ofTup h53 y))) Tryd.f53.results.toList (R53.map (·.h)) R53) = F53 k y.1 y.2.1 y.2.2.1 y.2.2.2 := by kernel_rfl
noncomputable def C53 (k : Nat) : Con Tryd.prog := ⟨53, Tryd.f53, Tryd.func53, by kernel_rfl, by kernel_rfl, A53, h53, [], R53, fun y => F53 k y.1 y.2.1 y.2.2.1 y.2.2.2, fun y r h => con_ok good mixed (c := bodyOf Tryd.f53) Tryd.func53 (by kernel_rfl) n53 y ((e53 k y).trans h)⟩
noncomputable def F49 (k : Nat) (x1 : ByteArray) (x2 : Int) : Option (Int × Int) :=
grd (decide (0 ≤ x2 ∧ x2 < (x1.size : Int))) <|
cond (decide ((bt x1 x2) < 128)) (
some ((IntKind.wrap .i64 (bt x1 x2)), 1)) (
((cond (decide (194 ≤ (bt x1 x2))) (
cond (decide ((bt x1 x2) ≤ 223)) (
(F53 k x1 (IntKind.wrap .i64 (x2 + 1)) 128 191).bind fun y4 => 
some y4) (
some false)) (
some false) : Option Bool)).bind fun y5 => 
cond y5 (
grd (decide (0 ≤ (IntKind.wrap .i64 (x2 + 1)) ∧ (IntKind.wrap .i64 (x2 + 1)) < (x1.size : Int))) <|
some ((IntKind.wrap .i64 ((IntKind.wrap .i64 ((IntKind.wrap .i64 (bits .and .u8 (bt x1 x2) 31)) * 64)) + (IntKind.wrap .i64 (bits .and .u8 (bt x1 (IntKind.wrap .i64 (x2 + 1))) 63)))), 2)) (
((cond ((bt x1 x2) == 224) (
some (160, 191)) (
cond ((bt x1 x2) == 237) (
some (128, 159)) (
cond ((bt x1 x2) == 240) (
some (144, 191)) (
cond ((bt x1 x2) == 244) (
some (128, 143)) (
some (128, 191))))) : Option (Int × Int))).bind fun y6 => 
((cond (decide (224 ≤ (bt x1 x2))) (
cond (decide ((bt x1 x2) ≤ 239)) (
(F53 k x1 (IntKind.wrap .i64 (x2 + 1)) y6.1 y6.2).bind fun y12 => 
cond y12 (
(F53 k x1 (IntKind.wrap .i64 (x2 + 2)) 128 191).bind fun y13 => 
some y13) (
some false)) (
some false)) (
some false) : Option Bool)).bind fun y14 => 
cond y14 (
grd (decide (0 ≤ (IntKind.wrap .i64 (x2 + 1)) ∧ (IntKind.wrap .i64 (x2 + 1)) < (x1.size : Int))) <|
grd (decide (0 ≤ (IntKind.wrap .i64 (x2 + 2)) ∧ (IntKind.wrap .i64 (x2 + 2)) < (x1.size : Int))) <|
some ((IntKind.wrap .i64 ((IntKind.wrap .i64 ((IntKind.wrap .i64 ((IntKind.wrap .i64 (bits .and .u8 (bt x1 x2) 15)) * 4096)) + (IntKind.wrap .i64 ((IntKind.wrap .i64 (bits .and .u8 (bt x1 (IntKind.wrap .i64 (x2 + 1))) 63)) * 64)))) + (IntKind.wrap .i64 (bits .and .u8 (bt x1 (IntKind.wrap .i64 (x2 + 2))) 63)))), 3)) (
((cond (decide (240 ≤ (bt x1 x2))) (
cond (decide ((bt x1 x2) ≤ 244)) (
(F53 k x1 (IntKind.wrap .i64 (x2 + 1)) y6.1 y6.2).bind fun y22 => 
cond y22 (
(F53 k x1 (IntKind.wrap .i64 (x2 + 2)) 128 191).bind fun y23 => 
cond y23 (
(F53 k x1 (IntKind.wrap .i64 (x2 + 3)) 128 191).bind fun y24 => 
some y24) (
some false)) (
some false)) (
some false)) (
some false) : Option Bool)).bind fun y25 => 
cond y25 (
grd (decide (0 ≤ (IntKind.wrap .i64 (x2 + 1)) ∧ (IntKind.wrap .i64 (x2 + 1)) < (x1.size : Int))) <|
grd (decide (0 ≤ (IntKind.wrap .i64 (x2 + 2)) ∧ (IntKind.wrap .i64 (x2 + 2)) < (x1.size : Int))) <|
grd (decide (0 ≤ (IntKind.wrap .i64 (x2 + 3)) ∧ (IntKind.wrap .i64 (x2 + 3)) < (x1.size : Int))) <|
some ((IntKind.wrap .i64 ((IntKind.wrap .i64 ((IntKind.wrap .i64 ((IntKind.wrap .i64 ((IntKind.wrap .i64 (bits .and .u8 (bt x1 x2) 7)) * 262144)) + (IntKind.wrap .i64 ((IntKind.wrap .i64 (bits .and .u8 (bt x1 (IntKind.wrap .i64 (x2 + 1))) 63)) * 4096)))) + (IntKind.wrap .i64 ((IntKind.wrap .i64 (bits .and .u8 (bt x1 (IntKind.wrap .i64 (x2 + 2))) 63)) * 64)))) + (IntKind.wrap .i64 (bits .and .u8 (bt x1 (IntKind.wrap .i64 (x2 + 3))) 63)))), 4)) (
some (65533, 1)))))
def A49 : CTpl := ⟨[.s, .i .i64], []⟩
def h49 : List HTy := [.ts, .ti]
def R49 : List RTpl := [⟨.tp [.i .i64, .i .i64], [], [.ti, .ti]⟩]
def n49 : An := .sq (.nd) (.sq (.nd) (.sq (.sq (.nd) (.sq (.nd) (.jn [0, 1, 6] [] [(0, ⟨[(17, .b)], []⟩)] [[.tb]] (.nd) (.nd)))) (.sq (.nd) (.jn [0, 1, 6] [] [(0, ⟨[(7, .i .u8), (8, .i .u8)], []⟩)] [[.ti, .ti]] (.nd) (.sq (.jn [0, 1, 6, 7, 8] [] [(0, ⟨[(69, .b)], []⟩)] [[.tb]] (.nd) (.sq (.sq (.mk [] [0, 1, 3, 7, 0, 0, 32, 112, 240, 496, 1008, 2047, 0, 0, 8192, 28672, 61440, 126976, 262143, 524287, 1048575]) (.nd)) (.nd))) (.sq (.jn [0, 1, 6] [] [(0, ⟨[(114, .b)], []⟩)] [[.tb]] (.nd) (.sq (.sq (.mk [] [0, 1, 3, 7, 0, 0, 32, 112, 240, 496, 1008, 2047, 0, 0, 8192, 28672, 61440, 126976, 258048, 524287, 0, 0, 2097152, 7340032, 15728640, 32505856, 67108863, 134217727, 268435455]) (.nd)) (.nd))) (.nd)))))))
theorem e49 (k : Nat) (y : Tup h49) : exec (P := Tryd.prog) D (lk rowsL) [C53 k] k (bodyOf Tryd.f49) n49 (fnE Tryd.f49 A49 [] (inOf A49 (ofTup h49 y))) (fnSt [] (inOf A49 (ofTup h49 y))) (leafR D (fnE Tryd.f49 A49 [] (inOf A49 (ofTup h49 y))) Tryd.f49.results.toList (R49.map (·.h)) R49) = F49 k y.1 y.2 := by kernel_rfl
noncomputable def C49 (k : Nat) : Con Tryd.prog := ⟨49, Tryd.f49, Tryd.func49, by kernel_rfl, by kernel_rfl, A49, h49, [], R49, fun y => F49 k y.1 y.2, fun y r h => con_ok good mixed (c := bodyOf Tryd.f49) Tryd.func49 (by kernel_rfl) n49 y ((e49 k y).trans h)⟩
noncomputable def L37_8 (k : Nat) (x1 : ByteArray) (z8 : (Int × (List Int) × (List Int))) : Option ((Int × (List Int) × (List Int)) ⊕ ((List Int) × (List Int))) :=
cond (decide (z8.1 < (x1.size : Int))) (
(F49 k x1 z8.1).bind fun y9 => 
grd (decide ((z8.2.1.length + [y9.1].length) * 8 ≤ 140737488355328)) <|
grd (decide ((z8.2.2.length + [y9.2].length) * 8 ≤ 140737488355328)) <|
some (.inl ((IntKind.wrap .i64 (z8.1 + y9.2)), (z8.2.1 ++ [y9.1]), (z8.2.2 ++ [y9.2])))) (
some (.inr (z8.2.1, z8.2.2)))
noncomputable def F37 (k : Nat) (x1 : ByteArray) : Option ((List Int) × (List Int)) :=
(loopN (L37_8 k x1) k (0, ([] : List Int), ([] : List Int))).bind fun y10 => 
some (y10.1, y10.2)
def A37 : CTpl := ⟨[.s], []⟩
def h37 : List HTy := [.ts]
def R37 : List RTpl := [⟨.tp [.sl .u 500000, .sl .u 500001], [(500000, .ar 3 (.int .i64 .nil)), (500001, .ar 3 (.int .i64 .nil))], [.tl (.int .i64 .nil), .tl (.int .i64 .nil)]⟩]
def n37 : An := .sq (.nd) (.sq (.nd) (.sq (.sq (.nd) (.lp [0] [] ⟨[(4, .sl .n 300400), (5, .sl .n 300401), (6, .i .i64)], [(300400, .ar 3 (.int .i64 .nil)), (300401, .ar 3 (.int .i64 .nil))]⟩ [.ti, .tl (.int .i64 .nil), .tl (.int .i64 .nil)] [(2, ⟨[(4, .sl .n 300425), (5, .sl .n 300426)], [(300425, .ar 3 (.int .i64 .nil)), (300426, .ar 3 (.int .i64 .nil))]⟩)] [[.tl (.int .i64 .nil), .tl (.int .i64 .nil)]] (.nd))) (.nd)))
theorem e37 (k : Nat) (y : Tup h37) : exec (P := Tryd.prog) D (lk rowsL) [C49 k] k (bodyOf Tryd.f37) n37 (fnE Tryd.f37 A37 [] (inOf A37 (ofTup h37 y))) (fnSt [] (inOf A37 (ofTup h37 y))) (leafR D (fnE Tryd.f37 A37 [] (inOf A37 (ofTup h37 y))) Tryd.f37.results.toList (R37.map (·.h)) R37) = F37 k y := by kernel_rfl
noncomputable def C37 (k : Nat) : Con Tryd.prog := ⟨37, Tryd.f37, Tryd.func37, by kernel_rfl, by kernel_rfl, A37, h37, [], R37, fun y => F37 k y, fun y r h => con_ok good mixed (c := bodyOf Tryd.f37) Tryd.func37 (by kernel_rfl) n37 y ((e37 k y).trans h)⟩
noncomputable def F38 (k : Nat) (x1 : Int) (x2 : Int) : Option Bool :=
cond (decide (33 ≤ x1)) (
cond (decide (127 ≤ x1)) (
cond (!(decide (x1 ≤ 160))) (
cond (x1 == 65533) (
some (!(x2 == 1))) (
some true)) (
some false)) (
cond (x1 == 65533) (
some (!(x2 == 1))) (
some true))) (
some false)
def A38 : CTpl := ⟨[.i .i64, .i .i64], []⟩
def h38 : List HTy := [.ti, .ti]
def R38 : List RTpl := [⟨.b, [], [.tb]⟩]
def n38 : An := .nd
theorem e38 (k : Nat) (y : Tup h38) : exec (P := Tryd.prog) D (lk rowsL) [] k (bodyOf Tryd.f38) n38 (fnE Tryd.f38 A38 [] (inOf A38 (ofTup h38 y))) (fnSt [] (inOf A38 (ofTup h38 y))) (leafR D (fnE Tryd.f38 A38 [] (inOf A38 (ofTup h38 y))) Tryd.f38.results.toList (R38.map (·.h)) R38) = F38 k y.1 y.2 := by kernel_rfl
noncomputable def C38 (k : Nat) : Con Tryd.prog := ⟨38, Tryd.f38, Tryd.func38, by kernel_rfl, by kernel_rfl, A38, h38, [], R38, fun y => F38 k y.1 y.2, fun y r h => con_ok good mixed (c := bodyOf Tryd.f38) Tryd.func38 (by kernel_rfl) n38 y ((e38 k y).trans h)⟩
noncomputable def L20_8 (k : Nat) (y2 : ((List Int) × (List Int))) (z42 : Int) : Option (Int ⊕ (Unit ⊕ Unit)) :=
cond (decide (z42 < (y2.1.length : Int))) (
(ix y2.1 z42).bind fun a43 =>
(y2.1[z42.toNat]?).bind fun a44 =>
(ix y2.2 z42).bind fun a45 =>
(y2.2[z42.toNat]?).bind fun a46 =>
(F38 k a44 a46).bind fun y47 => 
cond (!y47) (
some (.inr (.inl ()))) (
some (.inl (IntKind.wrap .i64 (z42 + 1))))) (
some (.inr (.inr ())))
noncomputable def F20 (k : Nat) (x1 : ByteArray) : Option Bool :=
(F37 k x1).bind fun y2 => 
(loopN (L20_8 k y2) k 0).bind fun y48 => 
sel (fun y49 =>
some false) (fun y50 =>
cond (decide (1 ≤ (y2.1.length : Int))) (
some (decide ((y2.1.length : Int) ≤ 12))) (
some false)) y48
def A20 : CTpl := ⟨[.s], []⟩
def h20 : List HTy := [.ts]
def R20 : List RTpl := [⟨.b, [], [.tb]⟩]
def n20 : An := .sq (.nd) (.sq (.nd) (.sq (.sq (.nd) (.lp [3, 4] [400800, 400801] ⟨[(5, .i .i64)], []⟩ [.ti] [(1, ⟨[(2, .lb false)], []⟩), (2, ⟨[], []⟩)] [[], []] (.sq (.nd) (.sq (.sq (.mk [] [0, 0, 3, 7, 0, 0, 48, 112, 255, 511]) (.nd)) (.nd))))) (.nd)))
theorem e20 (k : Nat) (y : Tup h20) : exec (P := Tryd.prog) D (lk rowsL) [C37 k, C38 k] k (bodyOf Tryd.f20) n20 (fnE Tryd.f20 A20 [] (inOf A20 (ofTup h20 y))) (fnSt [] (inOf A20 (ofTup h20 y))) (leafR D (fnE Tryd.f20 A20 [] (inOf A20 (ofTup h20 y))) Tryd.f20.results.toList (R20.map (·.h)) R20) = F20 k y := by kernel_rfl
noncomputable def C20 (k : Nat) : Con Tryd.prog := ⟨20, Tryd.f20, Tryd.func20, by kernel_rfl, by kernel_rfl, A20, h20, [], R20, fun y => F20 k y, fun y r h => con_ok good mixed (c := bodyOf Tryd.f20) Tryd.func20 (by kernel_rfl) n20 y ((e20 k y).trans h)⟩
noncomputable def F4 (k : Nat) (x1 : ByteArray) (x2 : ByteArray) : Option Bool :=
(F9 k).bind fun y2 => 
(((F10 k).bind fun y6 => 
cond (!y6) (
some true) (
some false) : Option Bool)).bind fun y7 => 
cond y7 (
some false) (
(F14 k x1 x2 y2.1 y2.2).bind fun y10 => 
(F13 k x1 y10.2.1 y10.2.2).bind fun y11 => 
(F20 k x1).bind fun y15 => 
cond (!y15) (
cond (y10.1 == 10) (
cond (y11.1 == 10) (
(F18 k y11.2.1 y11.2.2).bind fun y16 => 
some ((y16.length : Int) == 0)) (
some false)) (
some false)) (
cond (decide (48 < (x2.size : Int))) (
cond (y10.1 == 11) (
cond (y11.1 == 0) (
(F18 k y11.2.1 y11.2.2).bind fun y18 => 
some ((y18.length : Int) == 1)) (
some false)) (
some false)) (
cond (y10.1 == 0) (
cond (y11.1 == 0) (
(F18 k y11.2.1 y11.2.2).bind fun y19 => 
some ((y19.length : Int) == 1)) (
some false)) (
some false))))
def A4 : CTpl := ⟨[.s, .s], []⟩
def h4 : List HTy := [.ts, .ts]
def R4 : List RTpl := [⟨.b, [], [.tb]⟩]
def n4 : An := .sq (.nd) (.sq (.nd) (.sq (.jn [0, 1, 5] [400800, 400801] [(0, ⟨[(14, .b)], []⟩)] [[.tb]] (.nd) (.nd)) (.nd)))
theorem e4 (k : Nat) (hm : Mo.m = false) (y : Tup h4) : exec (P := Tryd.prog) D (lk rowsL) [C9 k, C10 k hm, C14 k hm, C13 k hm, C20 k, C18 k] k (bodyOf Tryd.f4) n4 (fnE Tryd.f4 A4 [] (inOf A4 (ofTup h4 y))) (fnSt [] (inOf A4 (ofTup h4 y))) (leafR D (fnE Tryd.f4 A4 [] (inOf A4 (ofTup h4 y))) Tryd.f4.results.toList (R4.map (·.h)) R4) = F4 k y.1 y.2 := by kernel_rfl
noncomputable def C4 (k : Nat) (hm : Mo.m = false) : Con Tryd.prog := ⟨4, Tryd.f4, Tryd.func4, by kernel_rfl, by kernel_rfl, A4, h4, [], R4, fun y => F4 k y.1 y.2, fun y r h => con_ok good mixed (c := bodyOf Tryd.f4) Tryd.func4 (by kernel_rfl) n4 y ((e4 k hm y).trans h)⟩
noncomputable def F30 (k : Nat) (x1 : ByteArray) : Option (ByteArray × Bool × ByteArray × Bool) :=
some (ByteArray.empty, false, ByteArray.empty, false)
def A30 : CTpl := ⟨[.c (.pointer none), .s], []⟩
def h30 : List HTy := [.ts]
def R30 : List RTpl := [⟨.tp [.ag [.s, .b, .s], .b], [], [.ts, .tb, .ts, .tb]⟩]
def n30 : An := .nd
theorem e30 (k : Nat) (y : Tup h30) : exec (P := Tryd.prog) D (lk rowsL) [] k (bodyOf Tryd.f30) n30 (fnE Tryd.f30 A30 [] (inOf A30 (ofTup h30 y))) (fnSt [] (inOf A30 (ofTup h30 y))) (leafR D (fnE Tryd.f30 A30 [] (inOf A30 (ofTup h30 y))) Tryd.f30.results.toList (R30.map (·.h)) R30) = F30 k y := by kernel_rfl
noncomputable def C30 (k : Nat) : Con Tryd.prog := ⟨30, Tryd.f30, Tryd.func30, by kernel_rfl, by kernel_rfl, A30, h30, [], R30, fun y => F30 k y, fun y r h => con_ok good mixed (c := bodyOf Tryd.f30) Tryd.func30 (by kernel_rfl) n30 y ((e30 k y).trans h)⟩
noncomputable def F34_1 (k : Nat) (x1 : ByteArray) (x2 : Bool) (x3 : ByteArray) : Option Int :=
some 1
def A34_1 : CTpl := ⟨[.c (.pointer none), .ag [.s, .b, .s]], []⟩
def h34_1 : List HTy := [.ts, .tb, .ts]
def R34_1 : List RTpl := [⟨.i .i64, [], [.ti]⟩]
def n34_1 : An := .nd
theorem e34_1 (k : Nat) (y : Tup h34_1) : exec (P := Tryd.prog) D (lk rowsL) [] k (bodyOf Tryd.f34) n34_1 (fnE Tryd.f34 A34_1 [] (inOf A34_1 (ofTup h34_1 y))) (fnSt [] (inOf A34_1 (ofTup h34_1 y))) (leafR D (fnE Tryd.f34 A34_1 [] (inOf A34_1 (ofTup h34_1 y))) Tryd.f34.results.toList (R34_1.map (·.h)) R34_1) = F34_1 k y.1 y.2.1 y.2.2 := by kernel_rfl
noncomputable def C34_1 (k : Nat) : Con Tryd.prog := ⟨34, Tryd.f34, Tryd.func34, by kernel_rfl, by kernel_rfl, A34_1, h34_1, [], R34_1, fun y => F34_1 k y.1 y.2.1 y.2.2, fun y r h => con_ok good mixed (c := bodyOf Tryd.f34) Tryd.func34 (by kernel_rfl) n34_1 y ((e34_1 k y).trans h)⟩
noncomputable def F14_1 (k : Nat) (x1 : ByteArray) (x2 : ByteArray) : Option Int :=
(F34_1 k x1 false x2).bind fun y1 => 
some y1
def A14_1 : CTpl := ⟨[.c (.pointer none), .s, .s], []⟩
def h14_1 : List HTy := [.ts, .ts]
def R14_1 : List RTpl := [⟨.i .i64, [], [.ti]⟩]
def n14_1 : An := .nd
theorem e14_1 (k : Nat) (y : Tup h14_1) : exec (P := Tryd.prog) D (lk rowsL) [C34_1 k] k (bodyOf Tryd.f14) n14_1 (fnE Tryd.f14 A14_1 [] (inOf A14_1 (ofTup h14_1 y))) (fnSt [] (inOf A14_1 (ofTup h14_1 y))) (leafR D (fnE Tryd.f14 A14_1 [] (inOf A14_1 (ofTup h14_1 y))) Tryd.f14.results.toList (R14_1.map (·.h)) R14_1) = F14_1 k y.1 y.2 := by kernel_rfl
noncomputable def C14_1 (k : Nat) : Con Tryd.prog := ⟨14, Tryd.f14, Tryd.func14, by kernel_rfl, by kernel_rfl, A14_1, h14_1, [], R14_1, fun y => F14_1 k y.1 y.2, fun y r h => con_ok good mixed (c := bodyOf Tryd.f14) Tryd.func14 (by kernel_rfl) n14_1 y ((e14_1 k y).trans h)⟩
noncomputable def F13_1 (k : Nat) (x1 : ByteArray) : Option Int :=
(F34_1 k x1 true ByteArray.empty).bind fun y1 => 
some y1
def A13_1 : CTpl := ⟨[.c (.pointer none), .s], []⟩
def h13_1 : List HTy := [.ts]
def R13_1 : List RTpl := [⟨.i .i64, [], [.ti]⟩]
def n13_1 : An := .nd
theorem e13_1 (k : Nat) (y : Tup h13_1) : exec (P := Tryd.prog) D (lk rowsL) [C34_1 k] k (bodyOf Tryd.f13) n13_1 (fnE Tryd.f13 A13_1 [] (inOf A13_1 (ofTup h13_1 y))) (fnSt [] (inOf A13_1 (ofTup h13_1 y))) (leafR D (fnE Tryd.f13 A13_1 [] (inOf A13_1 (ofTup h13_1 y))) Tryd.f13.results.toList (R13_1.map (·.h)) R13_1) = F13_1 k y := by kernel_rfl
noncomputable def C13_1 (k : Nat) : Con Tryd.prog := ⟨13, Tryd.f13, Tryd.func13, by kernel_rfl, by kernel_rfl, A13_1, h13_1, [], R13_1, fun y => F13_1 k y, fun y r h => con_ok good mixed (c := bodyOf Tryd.f13) Tryd.func13 (by kernel_rfl) n13_1 y ((e13_1 k y).trans h)⟩
noncomputable def F21 (k : Nat) (x1 : (List (ByteArray × Bool × ByteArray × Int))) (x2 : Int) : Option Int :=
some 1
def A21 : CTpl := ⟨[.c (.pointer none), .fz .u (.str (.bool (.str (.int .u32 .nil)))), .i .u32], []⟩
def h21 : List HTy := [.tl (.str (.bool (.str (.int .u32 .nil)))), .ti]
def R21 : List RTpl := [⟨.i .i64, [], [.ti]⟩]
def n21 : An := .nd
theorem e21 (k : Nat) (y : Tup h21) : exec (P := Tryd.prog) D (lk rowsL) [] k (bodyOf Tryd.f21) n21 (fnE Tryd.f21 A21 [] (inOf A21 (ofTup h21 y))) (fnSt [] (inOf A21 (ofTup h21 y))) (leafR D (fnE Tryd.f21 A21 [] (inOf A21 (ofTup h21 y))) Tryd.f21.results.toList (R21.map (·.h)) R21) = F21 k y.1 y.2 := by kernel_rfl
noncomputable def C21 (k : Nat) : Con Tryd.prog := ⟨21, Tryd.f21, Tryd.func21, by kernel_rfl, by kernel_rfl, A21, h21, [], R21, fun y => F21 k y.1 y.2, fun y r h => con_ok good mixed (c := bodyOf Tryd.f21) Tryd.func21 (by kernel_rfl) n21 y ((e21 k y).trans h)⟩
noncomputable def F18_1 (k : Nat) : Option Unit :=
some ()
def A18_1 : CTpl := ⟨[.c (.pointer none)], []⟩
def h18_1 : List HTy := []
def R18_1 : List RTpl := [⟨.c (.slice none 0 0), [], []⟩]
def n18_1 : An := .nd
theorem e18_1 (k : Nat) (y : Tup h18_1) : exec (P := Tryd.prog) D (lk rowsL) [] k (bodyOf Tryd.f18) n18_1 (fnE Tryd.f18 A18_1 [] (inOf A18_1 (ofTup h18_1 y))) (fnSt [] (inOf A18_1 (ofTup h18_1 y))) (leafR D (fnE Tryd.f18 A18_1 [] (inOf A18_1 (ofTup h18_1 y))) Tryd.f18.results.toList (R18_1.map (·.h)) R18_1) = F18_1 k := by kernel_rfl
noncomputable def C18_1 (k : Nat) : Con Tryd.prog := ⟨18, Tryd.f18, Tryd.func18, by kernel_rfl, by kernel_rfl, A18_1, h18_1, [], R18_1, fun y => F18_1 k, fun y r h => con_ok good mixed (c := bodyOf Tryd.f18) Tryd.func18 (by kernel_rfl) n18_1 y ((e18_1 k y).trans h)⟩
noncomputable def F22 (k : Nat) : Option Unit :=
some ()
def A22 : CTpl := ⟨[.c (.pointer none)], []⟩
def h22 : List HTy := []
def R22 : List RTpl := [⟨.c (.slice none 0 0), [], []⟩]
def n22 : An := .nd
theorem e22 (k : Nat) (y : Tup h22) : exec (P := Tryd.prog) D (lk rowsL) [] k (bodyOf Tryd.f22) n22 (fnE Tryd.f22 A22 [] (inOf A22 (ofTup h22 y))) (fnSt [] (inOf A22 (ofTup h22 y))) (leafR D (fnE Tryd.f22 A22 [] (inOf A22 (ofTup h22 y))) Tryd.f22.results.toList (R22.map (·.h)) R22) = F22 k := by kernel_rfl
noncomputable def C22 (k : Nat) : Con Tryd.prog := ⟨22, Tryd.f22, Tryd.func22, by kernel_rfl, by kernel_rfl, A22, h22, [], R22, fun y => F22 k, fun y r h => con_ok good mixed (c := bodyOf Tryd.f22) Tryd.func22 (by kernel_rfl) n22 y ((e22 k y).trans h)⟩
noncomputable def F8 (k : Nat) (x1 : ByteArray) (x2 : (List (ByteArray × Bool × ByteArray × Int))) : Option Bool :=
(F30 k x1).bind fun y2 => 
(F10 k).bind fun y3 => 
cond y3 (
(F14_1 k (⟨#[97]⟩ : ByteArray) (⟨#[]⟩ : ByteArray)).bind fun y4 => 
cond (y4 == 1) (
(F13_1 k (⟨#[97]⟩ : ByteArray)).bind fun y5 => 
cond (y5 == 1) (
(F21 k ([] : List (ByteArray × Bool × ByteArray × Int)) 0).bind fun y6 => 
cond (y6 == 1) (
cond (!y2.2.2.2) (
(F18_1 k).bind fun y7 => 
(F22 k).bind fun y8 => 
some true) (
some false)) (
some false)) (
some false)) (
some false)) (
some false)
def A8 : CTpl := ⟨[.s, .fz .u (.str (.bool (.str (.int .u32 .nil))))], []⟩
def h8 : List HTy := [.ts, .tl (.str (.bool (.str (.int .u32 .nil))))]
def R8 : List RTpl := [⟨.b, [], [.tb]⟩]
def n8 : An := .nd
theorem e8 (k : Nat) (hm : Mo.m = false) (y : Tup h8) : exec (P := Tryd.prog) D (lk rowsL) [C30 k, C10 k hm, C14_1 k, C13_1 k, C21 k, C18_1 k, C22 k] k (bodyOf Tryd.f8) n8 (fnE Tryd.f8 A8 [] (inOf A8 (ofTup h8 y))) (fnSt [] (inOf A8 (ofTup h8 y))) (leafR D (fnE Tryd.f8 A8 [] (inOf A8 (ofTup h8 y))) Tryd.f8.results.toList (R8.map (·.h)) R8) = F8 k y.1 y.2 := by kernel_rfl
noncomputable def C8 (k : Nat) (hm : Mo.m = false) : Con Tryd.prog := ⟨8, Tryd.f8, Tryd.func8, by kernel_rfl, by kernel_rfl, A8, h8, [], R8, fun y => F8 k y.1 y.2, fun y r h => con_ok good mixed (c := bodyOf Tryd.f8) Tryd.func8 (by kernel_rfl) n8 y ((e8 k hm y).trans h)⟩
noncomputable def F39 (k : Nat) (x1 : (List (ByteArray × Int × Int))) : Option (List (ByteArray × Int × Int)) :=
nilT x1.isEmpty (
some ([] : List (ByteArray × Int × Int))) (
grd (decide ((([] : List (ByteArray × Int × Int)).length + x1.length) * 24 ≤ 140737488355328)) <|
some (([] : List (ByteArray × Int × Int)) ++ x1))
def A39 : CTpl := ⟨[.fz .u (.str (.int .u32 (.int .u32 .nil)))], []⟩
def h39 : List HTy := [.tl (.str (.int .u32 (.int .u32 .nil)))]
def R39 : List RTpl := [⟨.sl .u 500000, [(500000, .ar 50 (.str (.int .u32 (.int .u32 .nil))))], [.tl (.str (.int .u32 (.int .u32 .nil)))]⟩]
def n39 : An := .nd
theorem e39 (k : Nat) (y : Tup h39) : exec (P := Tryd.prog) D (lk rowsL) [] k (bodyOf Tryd.f39) n39 (fnE Tryd.f39 A39 [] (inOf A39 (ofTup h39 y))) (fnSt [] (inOf A39 (ofTup h39 y))) (leafR D (fnE Tryd.f39 A39 [] (inOf A39 (ofTup h39 y))) Tryd.f39.results.toList (R39.map (·.h)) R39) = F39 k y := by kernel_rfl
noncomputable def C39 (k : Nat) : Con Tryd.prog := ⟨39, Tryd.f39, Tryd.func39, by kernel_rfl, by kernel_rfl, A39, h39, [], R39, fun y => F39 k y, fun y r h => con_ok good mixed (c := bodyOf Tryd.f39) Tryd.func39 (by kernel_rfl) n39 y ((e39 k y).trans h)⟩
noncomputable def F41 (k : Nat) (x1 : ByteArray) (x2 : Int) (x3 : Int) (x4 : ByteArray) (x5 : Bool) (x6 : ByteArray) (x7 : Int) : Option Bool :=
some (x1.toList == x4.toList)
def A41 : CTpl := ⟨[.ag [.s, .i .u32, .i .u32], .pt 1000000 0], [(1000000, .bx 52 [.s, .b, .s, .i .u32])]⟩
def h41 : List HTy := [.ts, .ti, .ti, .ts, .tb, .ts, .ti]
def R41 : List RTpl := [⟨.b, [], [.tb]⟩]
def n41 : An := .nd
theorem e41 (k : Nat) (y : Tup h41) : exec (P := Tryd.prog) D (lk rowsL) [] k (bodyOf Tryd.f41) n41 (fnE Tryd.f41 A41 [1000000] (inOf A41 (ofTup h41 y))) (fnSt [1000000] (inOf A41 (ofTup h41 y))) (leafR D (fnE Tryd.f41 A41 [1000000] (inOf A41 (ofTup h41 y))) Tryd.f41.results.toList (R41.map (·.h)) R41) = F41 k y.1 y.2.1 y.2.2.1 y.2.2.2.1 y.2.2.2.2.1 y.2.2.2.2.2.1 y.2.2.2.2.2.2 := by kernel_rfl
noncomputable def C41 (k : Nat) : Con Tryd.prog := ⟨41, Tryd.f41, Tryd.func41, by kernel_rfl, by kernel_rfl, A41, h41, [1000000], R41, fun y => F41 k y.1 y.2.1 y.2.2.1 y.2.2.2.1 y.2.2.2.2.1 y.2.2.2.2.2.1 y.2.2.2.2.2.2, fun y r h => con_ok good mixed (c := bodyOf Tryd.f41) Tryd.func41 (by kernel_rfl) n41 y ((e41 k y).trans h)⟩
noncomputable def L40_6 (k : Nat) (x1 : (List (ByteArray × Int × Int))) (x2 : ByteArray) (x3 : Bool) (x4 : ByteArray) (x5 : Int) (z19 : Int) : Option (Int ⊕ (Int ⊕ Unit)) :=
cond (decide (z19 < (x1.length : Int))) (
(ix x1 z19).bind fun a20 =>
(F41 k a20.1 a20.2.1 a20.2.2 x2 x3 x4 x5).bind fun y21 => 
cond y21 (
some (.inr (.inl z19))) (
some (.inl (IntKind.wrap .i64 (z19 + 1))))) (
some (.inr (.inr ())))
noncomputable def F40 (k : Nat) (x1 : (List (ByteArray × Int × Int))) (x2 : ByteArray) (x3 : Bool) (x4 : ByteArray) (x5 : Int) : Option Int :=
(loopN (L40_6 k x1 x2 x3 x4 x5) k 0).bind fun y22 => 
sel (fun y23 =>
some y23) (fun y24 =>
some (-1)) y22
def A40 : CTpl := ⟨[.fz .u (.str (.int .u32 (.int .u32 .nil))), .fn 41 [.pt 1000000 0]], [(1000000, .bx 52 [.s, .b, .s, .i .u32])]⟩
def h40 : List HTy := [.tl (.str (.int .u32 (.int .u32 .nil))), .ts, .tb, .ts, .ti]
def R40 : List RTpl := [⟨.i .i64, [], [.ti]⟩]
def n40 : An := .sq (.nd) (.sq (.sq (.nd) (.lp [0, 1, 7] [] ⟨[(8, .i .i64)], []⟩ [.ti] [(1, ⟨[(4, .i .i64)], []⟩), (2, ⟨[], []⟩)] [[.ti], []] (.nd))) (.nd))
theorem e40 (k : Nat) (y : Tup h40) : exec (P := Tryd.prog) D (lk rowsL) [C41 k] k (bodyOf Tryd.f40) n40 (fnE Tryd.f40 A40 [1000000] (inOf A40 (ofTup h40 y))) (fnSt [1000000] (inOf A40 (ofTup h40 y))) (leafR D (fnE Tryd.f40 A40 [1000000] (inOf A40 (ofTup h40 y))) Tryd.f40.results.toList (R40.map (·.h)) R40) = F40 k y.1 y.2.1 y.2.2.1 y.2.2.2.1 y.2.2.2.2 := by kernel_rfl
noncomputable def C40 (k : Nat) : Con Tryd.prog := ⟨40, Tryd.f40, Tryd.func40, by kernel_rfl, by kernel_rfl, A40, h40, [1000000], R40, fun y => F40 k y.1 y.2.1 y.2.2.1 y.2.2.2.1 y.2.2.2.2, fun y r h => con_ok good mixed (c := bodyOf Tryd.f40) Tryd.func40 (by kernel_rfl) n40 y ((e40 k y).trans h)⟩
noncomputable def L40_1_6 (k : Nat) (x1 : (List (ByteArray × Int × Int))) (x2 : ByteArray) (x3 : Bool) (x4 : ByteArray) (x5 : Int) (z26 : Int) : Option (Int ⊕ (Int ⊕ Unit)) :=
cond (decide (z26 < (x1.length : Int))) (
(ix x1 z26).bind fun a27 =>
(x1[z26.toNat]?).bind fun a28 =>
(F41 k a28.1 a28.2.1 a28.2.2 x2 x3 x4 x5).bind fun y29 => 
cond y29 (
some (.inr (.inl z26))) (
some (.inl (IntKind.wrap .i64 (z26 + 1))))) (
some (.inr (.inr ())))
noncomputable def F40_1 (k : Nat) (x1 : (List (ByteArray × Int × Int))) (x2 : ByteArray) (x3 : Bool) (x4 : ByteArray) (x5 : Int) : Option Int :=
(loopN (L40_1_6 k x1 x2 x3 x4 x5) k 0).bind fun y30 => 
sel (fun y31 =>
some y31) (fun y32 =>
some (-1)) y30
def A40_1 : CTpl := ⟨[.sl .u 1000000, .fn 41 [.pt 1000001 0]], [(1000000, .ar 50 (.str (.int .u32 (.int .u32 .nil)))), (1000001, .bx 52 [.s, .b, .s, .i .u32])]⟩
def h40_1 : List HTy := [.tl (.str (.int .u32 (.int .u32 .nil))), .ts, .tb, .ts, .ti]
def R40_1 : List RTpl := [⟨.i .i64, [], [.ti]⟩]
def n40_1 : An := .sq (.nd) (.sq (.sq (.nd) (.lp [0, 1, 7] [] ⟨[(8, .i .i64)], []⟩ [.ti] [(1, ⟨[(4, .i .i64)], []⟩), (2, ⟨[], []⟩)] [[.ti], []] (.nd))) (.nd))
theorem e40_1 (k : Nat) (y : Tup h40_1) : exec (P := Tryd.prog) D (lk rowsL) [C41 k] k (bodyOf Tryd.f40) n40_1 (fnE Tryd.f40 A40_1 [1000000, 1000001] (inOf A40_1 (ofTup h40_1 y))) (fnSt [1000000, 1000001] (inOf A40_1 (ofTup h40_1 y))) (leafR D (fnE Tryd.f40 A40_1 [1000000, 1000001] (inOf A40_1 (ofTup h40_1 y))) Tryd.f40.results.toList (R40_1.map (·.h)) R40_1) = F40_1 k y.1 y.2.1 y.2.2.1 y.2.2.2.1 y.2.2.2.2 := by kernel_rfl
noncomputable def C40_1 (k : Nat) : Con Tryd.prog := ⟨40, Tryd.f40, Tryd.func40, by kernel_rfl, by kernel_rfl, A40_1, h40_1, [1000000, 1000001], R40_1, fun y => F40_1 k y.1 y.2.1 y.2.2.1 y.2.2.2.1 y.2.2.2.2, fun y r h => con_ok good mixed (c := bodyOf Tryd.f40) Tryd.func40 (by kernel_rfl) n40_1 y ((e40_1 k y).trans h)⟩
noncomputable def L21_1_16 (k : Nat) (x1 : (List (ByteArray × Bool × ByteArray × Int))) (x2 : Int) (z47 : (Int × (List (ByteArray × Int × Int)))) : Option ((Int × (List (ByteArray × Int × Int))) ⊕ (List (ByteArray × Int × Int))) :=
cond (decide (z47.1 < (x1.length : Int))) (
(((ix x1 z47.1).bind fun a48 =>
(F40_1 k z47.2 a48.1 a48.2.1 a48.2.2.1 a48.2.2.2).bind fun y49 => 
cond (decide (y49 < 0)) (
grd (decide ((z47.2.length + [(a48.1, a48.2.2.2, x2)].length) * 24 ≤ 140737488355328)) <|
some (z47.2 ++ [(a48.1, a48.2.2.2, x2)])) (
(ix z47.2 y49).bind fun a50 =>
(z47.2[y49.toNat]?).bind fun a51 =>
cond (a51.2.1 != a48.2.2.2) (
(ix z47.2 y49).bind fun a52 =>
((z47.2[y49.toNat]?).bind fun a53 => some (a53.1, 4294967295, a53.2.2)).bind fun a54 =>
some (z47.2.set y49.toNat a54)) (
some z47.2)) : Option (List (ByteArray × Int × Int)))).bind fun y55 => 
some (.inl ((IntKind.wrap .i64 (z47.1 + 1)), y55))) (
some (.inr z47.2))
noncomputable def F21_1 (k : Nat) (x1 : (List (ByteArray × Bool × ByteArray × Int))) (x2 : Int) (x3 : (List (ByteArray × Int × Int))) (x4 : (List (ByteArray × Bool × ByteArray))) : Option (Int × (List (ByteArray × Int × Int))) :=
(F39 k x3).bind fun y2 => 
(loopN (L21_1_16 k x1 x2) k (0, y2)).bind fun y56 => 
cond (decide (48 < (y56.length : Int))) (
some (12, x3)) (
some (0, y56))
def A21_1 : CTpl := ⟨[.pt 1000000 0, .fz .u (.str (.bool (.str (.int .u32 .nil)))), .i .u32], [(1000000, .bx 73 [.sl .u 1000001, .fz .u (.str (.int .u32 (.int .u32 .nil)))]), (1000001, .ar 31 (.str (.bool (.str .nil))))]⟩
def h21_1 : List HTy := [.tl (.str (.bool (.str (.int .u32 .nil)))), .ti, .tl (.str (.int .u32 (.int .u32 .nil))), .tl (.str (.bool (.str .nil)))]
def R21_1 : List RTpl := [⟨.i .i64, [(1000000, .bx 73 [.sl .u 1000001, .fz .u (.str (.int .u32 (.int .u32 .nil)))])], [.ti, .tl (.str (.int .u32 (.int .u32 .nil)))]⟩]
def n21_1 : An := .sq (.nd) (.sq (.nd) (.sq (.nd) (.sq (.sq (.nd) (.lp [0, 2, 18, 19] [1000000] ⟨[(7, .sl .u 300800), (20, .i .i64)], [(300800, .ar 50 (.str (.int .u32 (.int .u32 .nil))))]⟩ [.ti, .tl (.str (.int .u32 (.int .u32 .nil)))] [(2, ⟨[(7, .sl .u 300825)], [(300825, .ar 50 (.str (.int .u32 (.int .u32 .nil))))]⟩)] [[.tl (.str (.int .u32 (.int .u32 .nil)))]] (.sq (.nd) (.sq (.nd) (.jn [20] [] [(0, ⟨[(7, .sl .u 301150)], [(301150, .ar 50 (.str (.int .u32 (.int .u32 .nil))))]⟩)] [[.tl (.str (.int .u32 (.int .u32 .nil)))]] (.sq (.nd) (.sq (.nd) (.sq (.nd) (.sq (.nd) (.sq (.mk [] [0, 0, 3, 7, 15, 0, 32, 127, 255]) (.nd)))))) (.nd)))))) (.nd))))
theorem e21_1 (k : Nat) (y : Tup h21_1) : exec (P := Tryd.prog) D (lk rowsL) [C39 k, C40_1 k] k (bodyOf Tryd.f21) n21_1 (fnE Tryd.f21 A21_1 [1000001] (inOf A21_1 (ofTup h21_1 y))) (fnSt [1000001] (inOf A21_1 (ofTup h21_1 y))) (leafR D (fnE Tryd.f21 A21_1 [1000001] (inOf A21_1 (ofTup h21_1 y))) Tryd.f21.results.toList (R21_1.map (·.h)) R21_1) = F21_1 k y.1 y.2.1 y.2.2.1 y.2.2.2 := by kernel_rfl
noncomputable def C21_1 (k : Nat) : Con Tryd.prog := ⟨21, Tryd.f21, Tryd.func21, by kernel_rfl, by kernel_rfl, A21_1, h21_1, [1000001], R21_1, fun y => F21_1 k y.1 y.2.1 y.2.2.1 y.2.2.2, fun y r h => con_ok good mixed (c := bodyOf Tryd.f21) Tryd.func21 (by kernel_rfl) n21_1 y ((e21_1 k y).trans h)⟩
noncomputable def F22_1 (k : Nat) (x1 : (List (ByteArray × Int × Int))) (x2 : (List (ByteArray × Bool × ByteArray))) : Option (List (ByteArray × Int × Int)) :=
(F39 k x1).bind fun y1 => 
some y1
def A22_1 : CTpl := ⟨[.pt 1000000 0], [(1000000, .bx 73 [.sl .u 1000001, .fz .u (.str (.int .u32 (.int .u32 .nil)))]), (1000001, .ar 31 (.str (.bool (.str .nil))))]⟩
def h22_1 : List HTy := [.tl (.str (.int .u32 (.int .u32 .nil))), .tl (.str (.bool (.str .nil)))]
def R22_1 : List RTpl := [⟨.sl .u 500000, [(500000, .ar 50 (.str (.int .u32 (.int .u32 .nil))))], [.tl (.str (.int .u32 (.int .u32 .nil)))]⟩]
def n22_1 : An := .nd
theorem e22_1 (k : Nat) (y : Tup h22_1) : exec (P := Tryd.prog) D (lk rowsL) [C39 k] k (bodyOf Tryd.f22) n22_1 (fnE Tryd.f22 A22_1 [1000000, 1000001] (inOf A22_1 (ofTup h22_1 y))) (fnSt [1000000, 1000001] (inOf A22_1 (ofTup h22_1 y))) (leafR D (fnE Tryd.f22 A22_1 [1000000, 1000001] (inOf A22_1 (ofTup h22_1 y))) Tryd.f22.results.toList (R22_1.map (·.h)) R22_1) = F22_1 k y.1 y.2 := by kernel_rfl
noncomputable def C22_1 (k : Nat) : Con Tryd.prog := ⟨22, Tryd.f22, Tryd.func22, by kernel_rfl, by kernel_rfl, A22_1, h22_1, [1000000, 1000001], R22_1, fun y => F22_1 k y.1 y.2, fun y r h => con_ok good mixed (c := bodyOf Tryd.f22) Tryd.func22 (by kernel_rfl) n22_1 y ((e22_1 k y).trans h)⟩
noncomputable def L23_14 (k : Nat) (x1 : (List (ByteArray × Int × Int))) (x2 : (List (ByteArray × Int × Int))) (z20 : Int) : Option (Int ⊕ (Unit ⊕ Unit)) :=
cond (decide (z20 < (x1.length : Int))) (
(ix x1 z20).bind fun a21 =>
(ix x2 z20).bind fun a22 =>
(x2[z20.toNat]?).bind fun a23 =>
cond (!((a21.1.toList == a23.1.toList) && ((a21.2.1 == a23.2.1) && ((a21.2.2 == a23.2.2) && true)))) (
some (.inr (.inl ()))) (
some (.inl (IntKind.wrap .i64 (z20 + 1))))) (
some (.inr (.inr ())))
noncomputable def F23 (k : Nat) (x1 : (List (ByteArray × Int × Int))) (x2 : (List (ByteArray × Int × Int))) : Option Bool :=
cond ((x1.length : Int) != (x2.length : Int)) (
some false) (
(loopN (L23_14 k x1 x2) k 0).bind fun y24 => 
sel (fun y25 =>
some false) (fun y26 =>
some true) y24)
def A23 : CTpl := ⟨[.fz .u (.str (.int .u32 (.int .u32 .nil))), .sl .u 1000000], [(1000000, .ar 50 (.str (.int .u32 (.int .u32 .nil))))]⟩
def h23 : List HTy := [.tl (.str (.int .u32 (.int .u32 .nil))), .tl (.str (.int .u32 (.int .u32 .nil)))]
def R23 : List RTpl := [⟨.b, [], [.tb]⟩]
def n23 : An := .sq (.nd) (.sq (.nd) (.sq (.sq (.nd) (.lp [0, 1] [] ⟨[(5, .i .i64)], []⟩ [.ti] [(1, ⟨[(4, .lb false)], []⟩), (2, ⟨[], []⟩)] [[], []] (.sq (.nd) (.sq (.sq (.mk [] [0, 0, 3, 7, 0, 0, 48, 112, 255]) (.nd)) (.nd))))) (.nd)))
theorem e23 (k : Nat) (y : Tup h23) : exec (P := Tryd.prog) D (lk rowsL) [] k (bodyOf Tryd.f23) n23 (fnE Tryd.f23 A23 [1000000] (inOf A23 (ofTup h23 y))) (fnSt [1000000] (inOf A23 (ofTup h23 y))) (leafR D (fnE Tryd.f23 A23 [1000000] (inOf A23 (ofTup h23 y))) Tryd.f23.results.toList (R23.map (·.h)) R23) = F23 k y.1 y.2 := by kernel_rfl
noncomputable def C23 (k : Nat) : Con Tryd.prog := ⟨23, Tryd.f23, Tryd.func23, by kernel_rfl, by kernel_rfl, A23, h23, [1000000], R23, fun y => F23 k y.1 y.2, fun y r h => con_ok good mixed (c := bodyOf Tryd.f23) Tryd.func23 (by kernel_rfl) n23 y ((e23 k y).trans h)⟩
noncomputable def L23_1_14 (k : Nat) (x1 : (List (ByteArray × Int × Int))) (x2 : (List (ByteArray × Int × Int))) (z15 : Int) : Option (Int ⊕ (Unit ⊕ Unit)) :=
cond (decide (z15 < (x1.length : Int))) (
(ix x1 z15).bind fun a16 =>
(ix x2 z15).bind fun a17 =>
cond (!((a16.1.toList == a17.1.toList) && ((a16.2.1 == a17.2.1) && ((a16.2.2 == a17.2.2) && true)))) (
some (.inr (.inl ()))) (
some (.inl (IntKind.wrap .i64 (z15 + 1))))) (
some (.inr (.inr ())))
noncomputable def F23_1 (k : Nat) (x1 : (List (ByteArray × Int × Int))) (x2 : (List (ByteArray × Int × Int))) : Option Bool :=
cond ((x1.length : Int) != (x2.length : Int)) (
some false) (
(loopN (L23_1_14 k x1 x2) k 0).bind fun y18 => 
sel (fun y19 =>
some false) (fun y20 =>
some true) y18)
def A23_1 : CTpl := ⟨[.fz .u (.str (.int .u32 (.int .u32 .nil))), .fz .u (.str (.int .u32 (.int .u32 .nil)))], []⟩
def h23_1 : List HTy := [.tl (.str (.int .u32 (.int .u32 .nil))), .tl (.str (.int .u32 (.int .u32 .nil)))]
def R23_1 : List RTpl := [⟨.b, [], [.tb]⟩]
def n23_1 : An := .sq (.nd) (.sq (.nd) (.sq (.sq (.nd) (.lp [0, 1] [] ⟨[(5, .i .i64)], []⟩ [.ti] [(1, ⟨[(4, .lb false)], []⟩), (2, ⟨[], []⟩)] [[], []] (.sq (.nd) (.sq (.sq (.mk [] [0, 0, 3, 7, 0, 0, 48, 112, 255]) (.nd)) (.nd))))) (.nd)))
theorem e23_1 (k : Nat) (y : Tup h23_1) : exec (P := Tryd.prog) D (lk rowsL) [] k (bodyOf Tryd.f23) n23_1 (fnE Tryd.f23 A23_1 [] (inOf A23_1 (ofTup h23_1 y))) (fnSt [] (inOf A23_1 (ofTup h23_1 y))) (leafR D (fnE Tryd.f23 A23_1 [] (inOf A23_1 (ofTup h23_1 y))) Tryd.f23.results.toList (R23_1.map (·.h)) R23_1) = F23_1 k y.1 y.2 := by kernel_rfl
noncomputable def C23_1 (k : Nat) : Con Tryd.prog := ⟨23, Tryd.f23, Tryd.func23, by kernel_rfl, by kernel_rfl, A23_1, h23_1, [], R23_1, fun y => F23_1 k y.1 y.2, fun y r h => con_ok good mixed (c := bodyOf Tryd.f23) Tryd.func23 (by kernel_rfl) n23_1 y ((e23_1 k y).trans h)⟩
noncomputable def L23_2_14 (k : Nat) (x1 : (List (ByteArray × Int × Int))) (x2 : (List (ByteArray × Int × Int))) (z25 : Int) : Option (Int ⊕ (Unit ⊕ Unit)) :=
cond (decide (z25 < (x1.length : Int))) (
(ix x1 z25).bind fun a26 =>
(x1[z25.toNat]?).bind fun a27 =>
(ix x2 z25).bind fun a28 =>
(x2[z25.toNat]?).bind fun a29 =>
cond (!((a27.1.toList == a29.1.toList) && ((a27.2.1 == a29.2.1) && ((a27.2.2 == a29.2.2) && true)))) (
some (.inr (.inl ()))) (
some (.inl (IntKind.wrap .i64 (z25 + 1))))) (
some (.inr (.inr ())))
noncomputable def F23_2 (k : Nat) (x1 : (List (ByteArray × Int × Int))) (x2 : (List (ByteArray × Int × Int))) : Option Bool :=
cond ((x1.length : Int) != (x2.length : Int)) (
some false) (
(loopN (L23_2_14 k x1 x2) k 0).bind fun y30 => 
sel (fun y31 =>
some false) (fun y32 =>
some true) y30)
def A23_2 : CTpl := ⟨[.sl .u 1000000, .sl .u 1000001], [(1000000, .ar 50 (.str (.int .u32 (.int .u32 .nil)))), (1000001, .ar 50 (.str (.int .u32 (.int .u32 .nil))))]⟩
def h23_2 : List HTy := [.tl (.str (.int .u32 (.int .u32 .nil))), .tl (.str (.int .u32 (.int .u32 .nil)))]
def R23_2 : List RTpl := [⟨.b, [], [.tb]⟩]
def n23_2 : An := .sq (.nd) (.sq (.nd) (.sq (.sq (.nd) (.lp [0, 1] [] ⟨[(5, .i .i64)], []⟩ [.ti] [(1, ⟨[(4, .lb false)], []⟩), (2, ⟨[], []⟩)] [[], []] (.sq (.nd) (.sq (.sq (.mk [] [0, 0, 3, 7, 0, 0, 48, 112, 255]) (.nd)) (.nd))))) (.nd)))
theorem e23_2 (k : Nat) (y : Tup h23_2) : exec (P := Tryd.prog) D (lk rowsL) [] k (bodyOf Tryd.f23) n23_2 (fnE Tryd.f23 A23_2 [1000000, 1000001] (inOf A23_2 (ofTup h23_2 y))) (fnSt [1000000, 1000001] (inOf A23_2 (ofTup h23_2 y))) (leafR D (fnE Tryd.f23 A23_2 [1000000, 1000001] (inOf A23_2 (ofTup h23_2 y))) Tryd.f23.results.toList (R23_2.map (·.h)) R23_2) = F23_2 k y.1 y.2 := by kernel_rfl
noncomputable def C23_2 (k : Nat) : Con Tryd.prog := ⟨23, Tryd.f23, Tryd.func23, by kernel_rfl, by kernel_rfl, A23_2, h23_2, [1000000, 1000001], R23_2, fun y => F23_2 k y.1 y.2, fun y r h => con_ok good mixed (c := bodyOf Tryd.f23) Tryd.func23 (by kernel_rfl) n23_2 y ((e23_2 k y).trans h)⟩
noncomputable def L21_2_16 (k : Nat) (x1 : Int) (x3 : (List (ByteArray × Bool × ByteArray × Int))) (z52 : (Int × (List (ByteArray × Int × Int)))) : Option ((Int × (List (ByteArray × Int × Int))) ⊕ (List (ByteArray × Int × Int))) :=
cond (decide (z52.1 < (x3.length : Int))) (
(((ix x3 z52.1).bind fun a53 =>
(x3[z52.1.toNat]?).bind fun a54 =>
(F40_1 k z52.2 a54.1 a54.2.1 a54.2.2.1 a54.2.2.2).bind fun y55 => 
cond (decide (y55 < 0)) (
grd (decide ((z52.2.length + [(a54.1, a54.2.2.2, x1)].length) * 24 ≤ 140737488355328)) <|
some (z52.2 ++ [(a54.1, a54.2.2.2, x1)])) (
(ix z52.2 y55).bind fun a56 =>
(z52.2[y55.toNat]?).bind fun a57 =>
cond (a57.2.1 != a54.2.2.2) (
(ix z52.2 y55).bind fun a58 =>
((z52.2[y55.toNat]?).bind fun a59 => some (a59.1, 4294967295, a59.2.2)).bind fun a60 =>
some (z52.2.set y55.toNat a60)) (
some z52.2)) : Option (List (ByteArray × Int × Int)))).bind fun y61 => 
some (.inl ((IntKind.wrap .i64 (z52.1 + 1)), y61))) (
some (.inr z52.2))
noncomputable def F21_2 (k : Nat) (x1 : Int) (x2 : (List (ByteArray × Int × Int))) (x3 : (List (ByteArray × Bool × ByteArray × Int))) (x4 : (List (ByteArray × Bool × ByteArray))) : Option (Int × (List (ByteArray × Int × Int))) :=
(F39 k x2).bind fun y2 => 
(loopN (L21_2_16 k x1 x3) k (0, y2)).bind fun y62 => 
cond (decide (48 < (y62.length : Int))) (
some (12, x2)) (
some (0, y62))
def A21_2 : CTpl := ⟨[.pt 1000000 0, .sl .u 1000001, .i .u32], [(1000000, .bx 73 [.sl .u 1000002, .fz .u (.str (.int .u32 (.int .u32 .nil)))]), (1000001, .ar 52 (.str (.bool (.str (.int .u32 .nil))))), (1000002, .ar 31 (.str (.bool (.str .nil))))]⟩
def h21_2 : List HTy := [.ti, .tl (.str (.int .u32 (.int .u32 .nil))), .tl (.str (.bool (.str (.int .u32 .nil)))), .tl (.str (.bool (.str .nil)))]
def R21_2 : List RTpl := [⟨.i .i64, [(1000000, .bx 73 [.sl .u 1000002, .fz .u (.str (.int .u32 (.int .u32 .nil)))])], [.ti, .tl (.str (.int .u32 (.int .u32 .nil)))]⟩]
def n21_2 : An := .sq (.nd) (.sq (.nd) (.sq (.nd) (.sq (.sq (.nd) (.lp [0, 2, 18, 19] [1000000] ⟨[(7, .sl .u 300800), (20, .i .i64)], [(300800, .ar 50 (.str (.int .u32 (.int .u32 .nil))))]⟩ [.ti, .tl (.str (.int .u32 (.int .u32 .nil)))] [(2, ⟨[(7, .sl .u 300825)], [(300825, .ar 50 (.str (.int .u32 (.int .u32 .nil))))]⟩)] [[.tl (.str (.int .u32 (.int .u32 .nil)))]] (.sq (.nd) (.sq (.nd) (.jn [20] [] [(0, ⟨[(7, .sl .u 301150)], [(301150, .ar 50 (.str (.int .u32 (.int .u32 .nil))))]⟩)] [[.tl (.str (.int .u32 (.int .u32 .nil)))]] (.sq (.nd) (.sq (.nd) (.sq (.nd) (.sq (.nd) (.sq (.mk [] [0, 0, 3, 7, 15, 0, 32, 127, 255]) (.nd)))))) (.nd)))))) (.nd))))
theorem e21_2 (k : Nat) (y : Tup h21_2) : exec (P := Tryd.prog) D (lk rowsL) [C39 k, C40_1 k] k (bodyOf Tryd.f21) n21_2 (fnE Tryd.f21 A21_2 [1000001, 1000002] (inOf A21_2 (ofTup h21_2 y))) (fnSt [1000001, 1000002] (inOf A21_2 (ofTup h21_2 y))) (leafR D (fnE Tryd.f21 A21_2 [1000001, 1000002] (inOf A21_2 (ofTup h21_2 y))) Tryd.f21.results.toList (R21_2.map (·.h)) R21_2) = F21_2 k y.1 y.2.1 y.2.2.1 y.2.2.2 := by kernel_rfl
noncomputable def C21_2 (k : Nat) : Con Tryd.prog := ⟨21, Tryd.f21, Tryd.func21, by kernel_rfl, by kernel_rfl, A21_2, h21_2, [1000001, 1000002], R21_2, fun y => F21_2 k y.1 y.2.1 y.2.2.1 y.2.2.2, fun y r h => con_ok good mixed (c := bodyOf Tryd.f21) Tryd.func21 (by kernel_rfl) n21_2 y ((e21_2 k y).trans h)⟩
noncomputable def L5_35 (k : Nat) (x1 : (List (ByteArray × Bool × ByteArray × Int))) (z200 : (Int × (List (ByteArray × Int × Int)))) (z201 : (Bool × Int × (List (ByteArray × Int × Int)))) : Option ((Bool × Int × (List (ByteArray × Int × Int))) ⊕ (Bool × (List (ByteArray × Int × Int)))) :=
cond (decide (z201.2.1 < (z201.2.2.length : Int))) (
(((ix z201.2.2 z201.2.1).bind fun a202 =>
(z201.2.2[z201.2.1.toNat]?).bind fun a203 =>
(ix (([] : List (ByteArray × Bool × ByteArray × Int)) ++ (cut x1 0 (mn (x1.length : Int) 30))) z200.1).bind fun a204 =>
((([] : List (ByteArray × Bool × ByteArray × Int)) ++ (cut x1 0 (mn (x1.length : Int) 30)))[z200.1.toNat]?).bind fun a205 =>
cond (a203.1.toList == a205.1.toList) (
(ix z201.2.2 z201.2.1).bind fun a206 =>
(z201.2.2[z201.2.1.toNat]?).bind fun a207 =>
(ix (([] : List (ByteArray × Bool × ByteArray × Int)) ++ (cut x1 0 (mn (x1.length : Int) 30))) z200.1).bind fun a208 =>
((([] : List (ByteArray × Bool × ByteArray × Int)) ++ (cut x1 0 (mn (x1.length : Int) 30)))[z200.1.toNat]?).bind fun a209 =>
cond (a207.2.1 != a209.2.2.2) (
(ix z201.2.2 z201.2.1).bind fun a210 =>
((z201.2.2[z201.2.1.toNat]?).bind fun a211 => some (a211.1, 4294967295, a211.2.2)).bind fun a212 =>
some (true, (z201.2.2.set z201.2.1.toNat a212))) (
some (true, z201.2.2))) (
some (z201.1, z201.2.2)) : Option (Bool × (List (ByteArray × Int × Int))))).bind fun y213 => 
some (.inl (y213.1, (IntKind.wrap .i64 (z201.2.1 + 1)), y213.2))) (
some (.inr (z201.1, z201.2.2)))
noncomputable def L5_20 (k : Nat) (x1 : (List (ByteArray × Bool × ByteArray × Int))) (x2 : Int) (z200 : (Int × (List (ByteArray × Int × Int)))) : Option ((Int × (List (ByteArray × Int × Int))) ⊕ (List (ByteArray × Int × Int))) :=
cond (decide (z200.1 < ((([] : List (ByteArray × Bool × ByteArray × Int)) ++ (cut x1 0 (mn (x1.length : Int) 30))).length : Int))) (
(((loopN (L5_35 k x1 z200) k (false, 0, z200.2)).bind fun y214 => 
cond (!y214.1) (
(ix (([] : List (ByteArray × Bool × ByteArray × Int)) ++ (cut x1 0 (mn (x1.length : Int) 30))) z200.1).bind fun a215 =>
((([] : List (ByteArray × Bool × ByteArray × Int)) ++ (cut x1 0 (mn (x1.length : Int) 30)))[z200.1.toNat]?).bind fun a216 =>
(ix (([] : List (ByteArray × Bool × ByteArray × Int)) ++ (cut x1 0 (mn (x1.length : Int) 30))) z200.1).bind fun a217 =>
((([] : List (ByteArray × Bool × ByteArray × Int)) ++ (cut x1 0 (mn (x1.length : Int) 30)))[z200.1.toNat]?).bind fun a218 =>
grd (decide ((y214.2.length + [(a216.1, a218.2.2.2, x2)].length) * 24 ≤ 140737488355328)) <|
some (y214.2 ++ [(a216.1, a218.2.2.2, x2)])) (
some y214.2) : Option (List (ByteArray × Int × Int)))).bind fun y219 => 
some (.inl ((IntKind.wrap .i64 (z200.1 + 1)), y219))) (
some (.inr z200.2))
noncomputable def L5_78 (k : Nat) (z253 : (Int × (List (ByteArray × Int × Int)))) : Option ((Int × (List (ByteArray × Int × Int))) ⊕ (List (ByteArray × Int × Int))) :=
cond (decide (z253.1 < (z253.2.length : Int))) (
(ix z253.2 z253.1).bind fun a254 =>
((z253.2[z253.1.toNat]?).bind fun a255 => some (a255.1, 99, a255.2.2)).bind fun a256 =>
some (.inl ((IntKind.wrap .i64 (z253.1 + 1)), (z253.2.set z253.1.toNat a256)))) (
some (.inr z253.2))
noncomputable def L5_93 (k : Nat) (z278 : (Int × (List (ByteArray × Bool × ByteArray × Int)))) : Option ((Int × (List (ByteArray × Bool × ByteArray × Int))) ⊕ (List (ByteArray × Bool × ByteArray × Int))) :=
cond (decide (z278.1 < (z278.2.length : Int))) (
(ix z278.2 z278.1).bind fun a279 =>
((z278.2[z278.1.toNat]?).bind fun a280 => some ((⟨#[116, 117, 114, 110, 101, 100]⟩ : ByteArray), a280.2.1, a280.2.2.1, a280.2.2.2)).bind fun a281 =>
some (.inl ((IntKind.wrap .i64 (z278.1 + 1)), (z278.2.set z278.1.toNat a281)))) (
some (.inr z278.2))
noncomputable def F5 (k : Nat) (x1 : (List (ByteArray × Bool × ByteArray × Int))) (x2 : Int) : Option Bool :=
(F9 k).bind fun y2 => 
(((F10 k).bind fun y6 => 
cond (!y6) (
some true) (
some false) : Option Bool)).bind fun y7 => 
cond y7 (
some false) (
grd (bnds (x1.length : Int) 0 (mn (x1.length : Int) 30)) <|
grd (decide ((([] : List (ByteArray × Bool × ByteArray × Int)).length + (cut x1 0 (mn (x1.length : Int) 30)).length) * 48 ≤ 140737488355328)) <|
(loopN (L5_20 k x1 x2) k (0, ([] : List (ByteArray × Int × Int)))).bind fun y220 => 
(((F21_2 k x2 y2.1 (([] : List (ByteArray × Bool × ByteArray × Int)) ++ (cut x1 0 (mn (x1.length : Int) 30))) y2.2).bind fun y226 => 
cond (y226.1 != 0) (
some (true, y226.2)) (
(F21_2 k (IntKind.wrap .u32 ((IntKind.wrap .u32 (x2.tdiv 2)) + 1)) y226.2 (([] : List (ByteArray × Bool × ByteArray × Int)) ++ (cut x1 0 (mn (x1.length : Int) 30))) y2.2).bind fun y227 => 
some ((y227.1 != 0), y227.2)) : Option (Bool × (List (ByteArray × Int × Int))))).bind fun y228 => 
cond y228.1 (
some false) (
(F22_1 k y228.2 y2.2).bind fun y230 => 
(F23_2 k y230 y220).bind fun y232 => 
(loopN (L5_78 k) k (0, y230)).bind fun y257 => 
(loopN (L5_93 k) k (0, (([] : List (ByteArray × Bool × ByteArray × Int)) ++ (cut x1 0 (mn (x1.length : Int) 30))))).bind fun y282 => 
cond y232 (
(F22_1 k y228.2 y2.2).bind fun y283 => 
(F23_1 k y283 y220).bind fun y284 => 
some y284) (
some false)))
def A5 : CTpl := ⟨[.fz .u (.str (.bool (.str (.int .u32 .nil)))), .i .u32], []⟩
def h5 : List HTy := [.tl (.str (.bool (.str (.int .u32 .nil)))), .ti]
def R5 : List RTpl := [⟨.b, [], [.tb]⟩]
def n5 : An := .sq (.nd) (.sq (.nd) (.sq (.jn [0, 1, 5] [401400, 401401] [(0, ⟨[(20, .b)], []⟩)] [[.tb]] (.nd) (.nd)) (.sq (.nd) (.sq (.nd) (.sq (.sq (.nd) (.lp [0, 1, 5] [26, 401400, 401401] ⟨[(6, .sl .n 301000), (7, .i .i64)], [(301000, .ar 50 (.str (.int .u32 (.int .u32 .nil))))]⟩ [.ti, .tl (.str (.int .u32 (.int .u32 .nil)))] [(2, ⟨[(6, .sl .n 301025)], [(301025, .ar 50 (.str (.int .u32 (.int .u32 .nil))))]⟩)] [[.tl (.str (.int .u32 (.int .u32 .nil)))]] (.sq (.nd) (.jn [7] [] [(0, ⟨[(6, .sl .n 301350)], [(301350, .ar 50 (.str (.int .u32 (.int .u32 .nil))))]⟩)] [[.tl (.str (.int .u32 (.int .u32 .nil)))]] (.sq (.nd) (.sq (.sq (.nd) (.lp [6] [] ⟨[(8, .b), (9, .i .i64)], [(301000, .ar 50 (.str (.int .u32 (.int .u32 .nil))))]⟩ [.tb, .ti, .tl (.str (.int .u32 (.int .u32 .nil)))] [(4, ⟨[(8, .b)], [(301000, .ar 50 (.str (.int .u32 (.int .u32 .nil))))]⟩)] [[.tb, .tl (.str (.int .u32 (.int .u32 .nil)))]] (.sq (.nd) (.jn [9] [] [(0, ⟨[(8, .b)], [(301000, .ar 50 (.str (.int .u32 (.int .u32 .nil))))]⟩)] [[.tb, .tl (.str (.int .u32 (.int .u32 .nil)))]] (.sq (.mk [] [0, 0, 3, 7, 15, 0, 0, 96, 224, 480, 1023]) (.sq (.sq (.nd) (.sq (.mk [] [0, 0, 3, 7, 15, 0, 0, 96, 224, 480, 1023]) (.nd))) (.nd))) (.nd))))) (.sq (.nd) (.sq (.mk [] [0, 0, 0, 6, 14, 30, 0, 0, 192, 448, 960, 0, 4094, 8190, 16383, 32767]) (.nd))))) (.nd))))) (.sq (.jn [0, 5, 6] [26, 301025, 401401] [(0, ⟨[(95, .b)], [(401400, .bx 73 [.sl .u 401401, .fz .u (.str (.int .u32 (.int .u32 .nil)))])]⟩)] [[.tb, .tl (.str (.int .u32 (.int .u32 .nil)))]] (.nd) (.nd)) (.sq (.nd) (.sq (.nd) (.sq (.sq (.nd) (.lp [0, 5, 6, 10, 11] [26, 301025, 401400, 401401] ⟨[(12, .i .i64)], [(409700, .ar 50 (.str (.int .u32 (.int .u32 .nil))))]⟩ [.ti, .tl (.str (.int .u32 (.int .u32 .nil)))] [(6, ⟨[], [(409700, .ar 50 (.str (.int .u32 (.int .u32 .nil))))]⟩)] [[.tl (.str (.int .u32 (.int .u32 .nil)))]] (.nd))) (.sq (.sq (.nd) (.lp [0, 5, 6, 11] [301025, 401400, 401401] ⟨[(13, .i .i64)], [(26, .ar 52 (.str (.bool (.str (.int .u32 .nil)))))]⟩ [.ti, .tl (.str (.bool (.str (.int .u32 .nil))))] [(8, ⟨[], [(26, .ar 52 (.str (.bool (.str (.int .u32 .nil)))))]⟩)] [[.tl (.str (.bool (.str (.int .u32 .nil))))]] (.nd))) (.sq (.fr [(5, 301025), (5, 412400)]) (.nd))))))))))))
theorem e5 (k : Nat) (hm : Mo.m = false) (y : Tup h5) : exec (P := Tryd.prog) D (lk rowsL) [C9 k, C10 k hm, C21_2 k, C22_1 k, C23_2 k, C23_1 k] k (bodyOf Tryd.f5) n5 (fnE Tryd.f5 A5 [] (inOf A5 (ofTup h5 y))) (fnSt [] (inOf A5 (ofTup h5 y))) (leafR D (fnE Tryd.f5 A5 [] (inOf A5 (ofTup h5 y))) Tryd.f5.results.toList (R5.map (·.h)) R5) = F5 k y.1 y.2 := by kernel_rfl
noncomputable def C5 (k : Nat) (hm : Mo.m = false) : Con Tryd.prog := ⟨5, Tryd.f5, Tryd.func5, by kernel_rfl, by kernel_rfl, A5, h5, [], R5, fun y => F5 k y.1 y.2, fun y r h => con_ok good mixed (c := bodyOf Tryd.f5) Tryd.func5 (by kernel_rfl) n5 y ((e5 k hm y).trans h)⟩
noncomputable def F24 (k : Nat) (x1 : Int) (x2 : Int) : Option Int :=
grd (x2 != 0) <|
((cond (decide ((x1.tmod x2) < 0)) (
some (IntKind.wrap .i64 ((x1.tmod x2) + x2))) (
some (x1.tmod x2)) : Option Int)).bind fun y1 => 
some y1
def A24 : CTpl := ⟨[.i .i64, .i .i64], []⟩
def h24 : List HTy := [.ti, .ti]
def R24 : List RTpl := [⟨.i .i64, [], [.ti]⟩]
def n24 : An := .sq (.nd) (.sq (.nd) (.jn [] [] [(0, ⟨[(0, .i .i64)], []⟩)] [[.ti]] (.nd) (.nd)))
theorem e24 (k : Nat) (y : Tup h24) : exec (P := Tryd.prog) D (lk rowsL) [] k (bodyOf Tryd.f24) n24 (fnE Tryd.f24 A24 [] (inOf A24 (ofTup h24 y))) (fnSt [] (inOf A24 (ofTup h24 y))) (leafR D (fnE Tryd.f24 A24 [] (inOf A24 (ofTup h24 y))) Tryd.f24.results.toList (R24.map (·.h)) R24) = F24 k y.1 y.2 := by kernel_rfl
noncomputable def C24 (k : Nat) : Con Tryd.prog := ⟨24, Tryd.f24, Tryd.func24, by kernel_rfl, by kernel_rfl, A24, h24, [], R24, fun y => F24 k y.1 y.2, fun y r h => con_ok good mixed (c := bodyOf Tryd.f24) Tryd.func24 (by kernel_rfl) n24 y ((e24 k y).trans h)⟩
noncomputable def L25_8 (k : Nat) (x2 : Int) (z3 : (Int × (List (ByteArray × Bool × ByteArray × Int)))) : Option ((Int × (List (ByteArray × Bool × ByteArray × Int))) ⊕ (List (ByteArray × Bool × ByteArray × Int))) :=
cond (decide (z3.1 < x2)) (
grd (decide ((z3.2.length + [((strOfNums [(IntKind.wrap .u8 (97 + (IntKind.wrap .u8 (IntKind.wrap .i64 (z3.1.tdiv 16))))), (IntKind.wrap .u8 (97 + (IntKind.wrap .u8 (z3.1.tmod 16))))]), false, ByteArray.empty, 0)].length) * 48 ≤ 140737488355328)) <|
some (.inl ((IntKind.wrap .i64 (z3.1 + 1)), (z3.2 ++ [((strOfNums [(IntKind.wrap .u8 (97 + (IntKind.wrap .u8 (IntKind.wrap .i64 (z3.1.tdiv 16))))), (IntKind.wrap .u8 (97 + (IntKind.wrap .u8 (z3.1.tmod 16))))]), false, ByteArray.empty, 0)])))) (
some (.inr z3.2))
noncomputable def F25 (k : Nat) (x1 : Int) (x2 : Int) (x3 : (List (ByteArray × Int × Int))) (x4 : (List (ByteArray × Bool × ByteArray))) : Option (Int × (List (ByteArray × Int × Int))) :=
(loopN (L25_8 k x2) k (x1, ([] : List (ByteArray × Bool × ByteArray × Int)))).bind fun y4 => 
(F21_1 k y4 0 x3 x4).bind fun y5 => 
some (y5.1, y5.2)
def A25 : CTpl := ⟨[.i .i64, .i .i64, .pt 1000000 0], [(1000000, .bx 23 [.pt 1000001 0]), (1000001, .bx 73 [.sl .u 1000002, .fz .u (.str (.int .u32 (.int .u32 .nil)))]), (1000002, .ar 31 (.str (.bool (.str .nil))))]⟩
def h25 : List HTy := [.ti, .ti, .tl (.str (.int .u32 (.int .u32 .nil))), .tl (.str (.bool (.str .nil)))]
def R25 : List RTpl := [⟨.i .i64, [(1000000, .bx 23 [.pt 1000001 0]), (1000001, .bx 73 [.sl .u 1000002, .fz .u (.str (.int .u32 (.int .u32 .nil)))])], [.ti, .tl (.str (.int .u32 (.int .u32 .nil)))]⟩]
def n25 : An := .sq (.nd) (.sq (.nd) (.sq (.sq (.nd) (.lp [1, 2] [1000000, 1000001] ⟨[(6, .sl .n 300400), (7, .i .i64)], [(300400, .ar 52 (.str (.bool (.str (.int .u32 .nil)))))]⟩ [.ti, .tl (.str (.bool (.str (.int .u32 .nil))))] [(2, ⟨[(6, .sl .n 300425)], [(300425, .ar 52 (.str (.bool (.str (.int .u32 .nil)))))]⟩)] [[.tl (.str (.bool (.str (.int .u32 .nil))))]] (.nd))) (.sq (.fr [(2, 300425)]) (.nd))))
theorem e25 (k : Nat) (y : Tup h25) : exec (P := Tryd.prog) D (lk rowsL) [C21_1 k] k (bodyOf Tryd.f25) n25 (fnE Tryd.f25 A25 [1000002] (inOf A25 (ofTup h25 y))) (fnSt [1000002] (inOf A25 (ofTup h25 y))) (leafR D (fnE Tryd.f25 A25 [1000002] (inOf A25 (ofTup h25 y))) Tryd.f25.results.toList (R25.map (·.h)) R25) = F25 k y.1 y.2.1 y.2.2.1 y.2.2.2 := by kernel_rfl
noncomputable def C25 (k : Nat) : Con Tryd.prog := ⟨25, Tryd.f25, Tryd.func25, by kernel_rfl, by kernel_rfl, A25, h25, [1000002], R25, fun y => F25 k y.1 y.2.1 y.2.2.1 y.2.2.2, fun y r h => con_ok good mixed (c := bodyOf Tryd.f25) Tryd.func25 (by kernel_rfl) n25 y ((e25 k y).trans h)⟩
noncomputable def F6 (k : Nat) (x1 : Int) (x2 : Int) : Option Bool :=
(F9 k).bind fun y2 => 
(((F10 k).bind fun y6 => 
cond (!y6) (
some true) (
some false) : Option Bool)).bind fun y7 => 
cond y7 (
some false) (
(F24 k x1 49).bind fun y10 => 
(F24 k x2 96).bind fun y11 => 
(((F25 k 0 y10 y2.1 y2.2).bind fun y17 => 
cond (y17.1 != 0) (
some (true, y17.2)) (
(F22_1 k y17.2 y2.2).bind fun y18 => 
some (((y18.length : Int) != y10), y17.2)) : Option (Bool × (List (ByteArray × Int × Int))))).bind fun y19 => 
cond y19.1 (
some false) (
(F25 k y10 (IntKind.wrap .i64 (y10 + y11)) y19.2 y2.2).bind fun y21 => 
cond (decide (48 < (IntKind.wrap .i64 (y10 + y11)))) (
cond (y21.1 == 12) (
(F22_1 k y21.2 y2.2).bind fun y23 => 
some ((y23.length : Int) == y10)) (
some false)) (
cond (y21.1 == 0) (
(F22_1 k y21.2 y2.2).bind fun y24 => 
some ((y24.length : Int) == (IntKind.wrap .i64 (y10 + y11)))) (
some false))))
def A6 : CTpl := ⟨[.i .i64, .i .i64], []⟩
def h6 : List HTy := [.ti, .ti]
def R6 : List RTpl := [⟨.b, [], [.tb]⟩]
def n6 : An := .sq (.nd) (.sq (.nd) (.sq (.jn [0, 1, 5] [5, 400800, 400801] [(0, ⟨[(14, .b)], []⟩)] [[.tb]] (.nd) (.nd)) (.sq (.nd) (.sq (.nd) (.sq (.jn [0, 1, 5, 6] [400801] [(0, ⟨[(30, .b)], [(5, .bx 23 [.pt 400800 0]), (400800, .bx 73 [.sl .u 400801, .fz .u (.str (.int .u32 (.int .u32 .nil)))])]⟩)] [[.tb, .tl (.str (.int .u32 (.int .u32 .nil)))]] (.nd) (.nd)) (.nd))))))
theorem e6 (k : Nat) (hm : Mo.m = false) (y : Tup h6) : exec (P := Tryd.prog) D (lk rowsL) [C9 k, C10 k hm, C24 k, C25 k, C22_1 k] k (bodyOf Tryd.f6) n6 (fnE Tryd.f6 A6 [] (inOf A6 (ofTup h6 y))) (fnSt [] (inOf A6 (ofTup h6 y))) (leafR D (fnE Tryd.f6 A6 [] (inOf A6 (ofTup h6 y))) Tryd.f6.results.toList (R6.map (·.h)) R6) = F6 k y.1 y.2 := by kernel_rfl
noncomputable def C6 (k : Nat) (hm : Mo.m = false) : Con Tryd.prog := ⟨6, Tryd.f6, Tryd.func6, by kernel_rfl, by kernel_rfl, A6, h6, [], R6, fun y => F6 k y.1 y.2, fun y r h => con_ok good mixed (c := bodyOf Tryd.f6) Tryd.func6 (by kernel_rfl) n6 y ((e6 k hm y).trans h)⟩
end Go.Proofs.YtnpgfcedmdnemaaDoor.N

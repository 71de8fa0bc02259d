/- What the functions compute, natively, and that they do. Printed by a program (wip/xg). -/
import Derived.Test.YtnpgfcedmdnemaaDoorMc4
import Derived.Test.YtnpgfcedmdnemaaDoorProg
import Derived.Test.YtnpgfcedmdnemaaDoorShelf
namespace Go.Proofs.YtnpgfcedmdnemaaDoor.N
open Go Go.RowKit Go.Proofs.YtnpgfcedmdnemaaDoor.Mc Go.Proofs
set_option maxRecDepth 100000
set_option maxHeartbeats 0
set_option linter.unusedVariables false
noncomputable abbrev D := decOf Tryd.prog
theorem good : Go.Proofs.YtnpgfcedmdnemaaDoor.Mc.Good Tryd.prog D := good_of _
theorem mixed : Tryd.prog.follows .mixedOrders = true := by kernel_rfl
def rowsL : List (Nat × Row) := [(26, (.str (.bool (.str .nil)))), (38, (.str .nil)), (46, (.str (.bool (.str (.int .u32 .nil))))), (48, (.str (.int .u32 (.int .u32 .nil)))), (58, (.int .u8 .nil)), (78, (.int .i64 .nil)), (100, (.int .i32 .nil))]
def namesT : List ByteArray := [(⟨#[97]⟩ : ByteArray), (⟨#[98]⟩ : ByteArray), (⟨#[99]⟩ : ByteArray), (⟨#[97, 98]⟩ : ByteArray), (⟨#[107, 49]⟩ : ByteArray), (⟨#[107, 50]⟩ : ByteArray), (⟨#[107, 51]⟩ : ByteArray), (⟨#[195, 169]⟩ : ByteArray), (⟨#[195, 169, 97]⟩ : ByteArray), (⟨#[240, 159, 152, 128]⟩ : ByteArray), (⟨#[42]⟩ : ByteArray), (⟨#[122, 122]⟩ : ByteArray)]
variable [Mo]
noncomputable def F9 (k : Nat) : Option ((List (ByteArray × Int × Int)) × (List (ByteArray × Bool × ByteArray))) :=
some (([] : List (ByteArray × Int × Int)), ([] : List (ByteArray × Bool × ByteArray)))
def A9 : CTpl := ⟨[], []⟩
def h9 : List HTy := []
def R9 : List RTpl := [⟨.pt 500000 0, [(500000, .bx 73 [.sl .u 500001, .fz .u (.str (.int .u32 (.int .u32 .nil)))]), (500001, .ar 31 (.str (.bool (.str .nil))))], [.tl (.str (.int .u32 (.int .u32 .nil))), .tl (.str (.bool (.str .nil)))]⟩]
def n9 : An := .nd
theorem e9 (k : Nat) (y : Tup h9) : exec (P := Tryd.prog) D (lk rowsL) [] k (bodyOf Tryd.f9) n9 (fnE Tryd.f9 A9 [] (inOf A9 (ofTup h9 y))) (fnSt [] (inOf A9 (ofTup h9 y))) (leafR D (fnE Tryd.f9 A9 [] (inOf A9 (ofTup h9 y))) Tryd.f9.results.toList (R9.map (·.h)) R9) = F9 k := by kernel_rfl
noncomputable def C9 (k : Nat) : Con Tryd.prog := ⟨9, Tryd.f9, Tryd.func9, by kernel_rfl, by kernel_rfl, A9, h9, [], R9, fun y => F9 k, fun y r h => con_ok good mixed (c := bodyOf Tryd.f9) Tryd.func9 (by kernel_rfl) n9 y ((e9 k y).trans h)⟩
noncomputable def F50 (k : Nat) (x1 : ByteArray) : Option (Int × Int) :=
some (((Go.Lib.decodeGo x1).1 : Int), ((Go.Lib.decodeGo x1).2 : Int))
def A50 : CTpl := ⟨[.s], []⟩
def h50 : List HTy := [.ts]
def R50 : List RTpl := [⟨.tp [.i .i32, .i .i64], [], [.ti, .ti]⟩]
def n50 : An := .nd
noncomputable def C50 (k : Nat) (hm : Mo.m = false) : Con Tryd.prog := ⟨50, Tryd.f50, Tryd.func50, by kernel_rfl, by kernel_rfl, A50, h50, [], R50, fun y => F50 k y, fun y r h => by
  have h2 : some (((Go.Lib.decodeGo y).1 : Int), ((Go.Lib.decodeGo y).2 : Int)) = some r := h
  cases h2
  exact CTx.lib (vs := [.string y]) rfl (fun _ _ _ => relV_two) fun w hw => (Tryd.utf8_DecodeRuneInString y w (tabs_of (by kernel_rfl) (by kernel_rfl) hw)).mono fun e w2 g => ⟨g.1, g.2, fun g2 => by rw [hm] at g2; cases g2⟩⟩
noncomputable def L44_8 (k : Nat) (x1 : ByteArray) (z18 : (Int × ByteArray × Nat)) : Option ((Int × ByteArray × Nat) ⊕ ((ByteArray × Nat) ⊕ (Int × ByteArray × Nat))) :=
cond (decide (z18.2.2 < z18.2.1.size)) (
((cond (decide (12 < (IntKind.wrap .i64 (z18.1 + 1)))) (
some true) (
cond (decide (((Utf8.decode z18.2.1 z18.2.2).1 : Int) < 33)) (
some true) (
cond (decide (127 ≤ ((Utf8.decode z18.2.1 z18.2.2).1 : Int))) (
some (decide (((Utf8.decode z18.2.1 z18.2.2).1 : Int) ≤ 160))) (
some false))) : Option Bool)).bind fun y19 => 
cond y19 (
some (.inr (.inl (z18.2.1, (z18.2.2 + (Utf8.decode z18.2.1 z18.2.2).2))))) (
grd (bnds (x1.size : Int) (z18.2.2 : Int) (x1.size : Int)) <|
(F50 k (x1.extract ((z18.2.2 : Int).toNat) ((x1.size : Int).toNat))).bind fun y20 => 
((cond (((Utf8.decode z18.2.1 z18.2.2).1 : Int) == 65533) (
some (y20.2 == 1)) (
some false) : Option Bool)).bind fun y21 => 
cond y21 (
some (.inr (.inl (z18.2.1, (z18.2.2 + (Utf8.decode z18.2.1 z18.2.2).2))))) (
some (.inl ((IntKind.wrap .i64 (z18.1 + 1)), z18.2.1, (z18.2.2 + (Utf8.decode z18.2.1 z18.2.2).2)))))) (
some (.inr (.inr (z18.1, z18.2.1, z18.2.2))))
noncomputable def F44 (k : Nat) (x1 : ByteArray) : Option Bool :=
(loopN (L44_8 k x1) k (0, x1, 0)).bind fun y22 => 
sel (fun y23 =>
some false) (fun y24 =>
some (decide (0 < y24.1))) y22
def A44 : CTpl := ⟨[.s], []⟩
def h44 : List HTy := [.ts]
def R44 : List RTpl := [⟨.b, [], [.tb]⟩]
def n44 : An := .sq (.nd) (.sq (.nd) (.sq (.sq (.nd) (.lp [0, 9] [] ⟨[(3, .i .i64)], [(9, .si)]⟩ [.ti, .ts, .tn] [(1, ⟨[(2, .lb false)], [(9, .si)]⟩), (2, ⟨[(3, .i .i64)], [(9, .si)]⟩)] [[.ts, .tn], [.ti, .ts, .tn]] (.sq (.nd) (.sq (.nd) (.sq (.nd) (.sq (.nd) (.sq (.jn [3, 4, 5] [9] [(0, ⟨[(29, .b)], []⟩)] [[.tb]] (.nd) (.nd)) (.sq (.nd) (.jn [3] [9] [(0, ⟨[(42, .b)], []⟩)] [[.tb]] (.nd) (.nd)))))))))) (.nd)))
theorem e44 (k : Nat) (hm : Mo.m = false) (y : Tup h44) : exec (P := Tryd.prog) D (lk rowsL) [C50 k hm] k (bodyOf Tryd.f44) n44 (fnE Tryd.f44 A44 [] (inOf A44 (ofTup h44 y))) (fnSt [] (inOf A44 (ofTup h44 y))) (leafR D (fnE Tryd.f44 A44 [] (inOf A44 (ofTup h44 y))) Tryd.f44.results.toList (R44.map (·.h)) R44) = F44 k y := by kernel_rfl
noncomputable def C44 (k : Nat) (hm : Mo.m = false) : Con Tryd.prog := ⟨44, Tryd.f44, Tryd.func44, by kernel_rfl, by kernel_rfl, A44, h44, [], R44, fun y => F44 k y, fun y r h => con_ok good mixed (c := bodyOf Tryd.f44) Tryd.func44 (by kernel_rfl) n44 y ((e44 k hm y).trans h)⟩
noncomputable def F46 (k : Nat) (x1 : ByteArray) (x2 : Bool) (x3 : ByteArray) (x4 : ByteArray) (x5 : Bool) (x6 : ByteArray) : Option Bool :=
some (x1.toList == x4.toList)
def A46 : CTpl := ⟨[.ag [.s, .b, .s], .pt 1000000 0], [(1000000, .bx 31 [.s, .b, .s])]⟩
def h46 : List HTy := [.ts, .tb, .ts, .ts, .tb, .ts]
def R46 : List RTpl := [⟨.b, [], [.tb]⟩]
def n46 : An := .nd
theorem e46 (k : Nat) (y : Tup h46) : exec (P := Tryd.prog) D (lk rowsL) [] k (bodyOf Tryd.f46) n46 (fnE Tryd.f46 A46 [1000000] (inOf A46 (ofTup h46 y))) (fnSt [1000000] (inOf A46 (ofTup h46 y))) (leafR D (fnE Tryd.f46 A46 [1000000] (inOf A46 (ofTup h46 y))) Tryd.f46.results.toList (R46.map (·.h)) R46) = F46 k y.1 y.2.1 y.2.2.1 y.2.2.2.1 y.2.2.2.2.1 y.2.2.2.2.2 := by kernel_rfl
noncomputable def C46 (k : Nat) : Con Tryd.prog := ⟨46, Tryd.f46, Tryd.func46, by kernel_rfl, by kernel_rfl, A46, h46, [1000000], R46, fun y => F46 k y.1 y.2.1 y.2.2.1 y.2.2.2.1 y.2.2.2.2.1 y.2.2.2.2.2, fun y r h => con_ok good mixed (c := bodyOf Tryd.f46) Tryd.func46 (by kernel_rfl) n46 y ((e46 k y).trans h)⟩
noncomputable def L45_6 (k : Nat) (x1 : (List (ByteArray × Bool × ByteArray))) (x2 : ByteArray) (x3 : Bool) (x4 : ByteArray) (z26 : Int) : Option (Int ⊕ (Int ⊕ Unit)) :=
cond (decide (z26 < (x1.length : Int))) (
(ix x1 z26).bind fun a27 =>
(x1[z26.toNat]?).bind fun a28 =>
(F46 k a28.1 a28.2.1 a28.2.2 x2 x3 x4).bind fun y29 => 
cond y29 (
some (.inr (.inl z26))) (
some (.inl (IntKind.wrap .i64 (z26 + 1))))) (
some (.inr (.inr ())))
noncomputable def F45 (k : Nat) (x1 : (List (ByteArray × Bool × ByteArray))) (x2 : ByteArray) (x3 : Bool) (x4 : ByteArray) : Option Int :=
(loopN (L45_6 k x1 x2 x3 x4) k 0).bind fun y30 => 
sel (fun y31 =>
some y31) (fun y32 =>
some (-1)) y30
def A45 : CTpl := ⟨[.sl .u 1000000, .fn 46 [.pt 1000001 0]], [(1000000, .ar 31 (.str (.bool (.str .nil)))), (1000001, .bx 31 [.s, .b, .s])]⟩
def h45 : List HTy := [.tl (.str (.bool (.str .nil))), .ts, .tb, .ts]
def R45 : List RTpl := [⟨.i .i64, [], [.ti]⟩]
def n45 : An := .sq (.nd) (.sq (.sq (.nd) (.lp [0, 1, 7] [] ⟨[(8, .i .i64)], []⟩ [.ti] [(1, ⟨[(4, .i .i64)], []⟩), (2, ⟨[], []⟩)] [[.ti], []] (.nd))) (.nd))
theorem e45 (k : Nat) (y : Tup h45) : exec (P := Tryd.prog) D (lk rowsL) [C46 k] k (bodyOf Tryd.f45) n45 (fnE Tryd.f45 A45 [1000000, 1000001] (inOf A45 (ofTup h45 y))) (fnSt [1000000, 1000001] (inOf A45 (ofTup h45 y))) (leafR D (fnE Tryd.f45 A45 [1000000, 1000001] (inOf A45 (ofTup h45 y))) Tryd.f45.results.toList (R45.map (·.h)) R45) = F45 k y.1 y.2.1 y.2.2.1 y.2.2.2 := by kernel_rfl
noncomputable def C45 (k : Nat) : Con Tryd.prog := ⟨45, Tryd.f45, Tryd.func45, by kernel_rfl, by kernel_rfl, A45, h45, [1000000, 1000001], R45, fun y => F45 k y.1 y.2.1 y.2.2.1 y.2.2.2, fun y r h => con_ok good mixed (c := bodyOf Tryd.f45) Tryd.func45 (by kernel_rfl) n45 y ((e45 k y).trans h)⟩
noncomputable def F34 (k : Nat) (x1 : ByteArray) (x2 : Bool) (x3 : ByteArray) (x4 : (List (ByteArray × Int × Int))) (x5 : (List (ByteArray × Bool × ByteArray))) : Option (Int × (List (ByteArray × Int × Int)) × (List (ByteArray × Bool × ByteArray))) :=
(F44 k x1).bind fun y3 => 
cond (!y3) (
some (10, x4, x5)) (
cond (decide (48 < (x3.size : Int))) (
some (11, x4, x5)) (
(F45 k x5 x1 x2 x3).bind fun y5 => 
((cond (decide (0 ≤ y5)) (
(ix x5 y5).bind fun a9 =>
((x5[y5.toNat]?).bind fun a10 => some (x1, x2, x3)).bind fun a11 =>
some (.inl (x4, (x5.set y5.toNat a11)))) (
cond (decide (8 ≤ (x5.length : Int))) (
some (.inr (x4, x5))) (
grd (decide ((x5.length + [(x1, x2, x3)].length) * 40 ≤ 140737488355328)) <|
some (.inl (x4, (x5 ++ [(x1, x2, x3)]))))) : Option (((List (ByteArray × Int × Int)) × (List (ByteArray × Bool × ByteArray))) ⊕ ((List (ByteArray × Int × Int)) × (List (ByteArray × Bool × ByteArray)))))).bind fun y12 => 
sel (fun y13 =>
some (0, y13.1, y13.2)) (fun y14 =>
some (12, y14.1, y14.2)) y12))
def A34 : CTpl := ⟨[.pt 1000000 0, .ag [.s, .b, .s]], [(1000000, .bx 73 [.sl .u 1000001, .fz .u (.str (.int .u32 (.int .u32 .nil)))]), (1000001, .ar 31 (.str (.bool (.str .nil))))]⟩
def h34 : List HTy := [.ts, .tb, .ts, .tl (.str (.int .u32 (.int .u32 .nil))), .tl (.str (.bool (.str .nil)))]
def R34 : List RTpl := [⟨.i .i64, [(1000000, .bx 73 [.sl .u 500000, .fz .u (.str (.int .u32 (.int .u32 .nil)))]), (1000001, .gone), (500000, .ar 31 (.str (.bool (.str .nil))))], [.ti, .tl (.str (.int .u32 (.int .u32 .nil))), .tl (.str (.bool (.str .nil)))]⟩]
def n34 : An := .sq (.nd) (.sq (.nd) (.sq (.nd) (.sq (.nd) (.jn [] [] [(0, ⟨[], [(1000000, .bx 73 [.sl .u 301350, .fz .u (.str (.int .u32 (.int .u32 .nil)))]), (1000001, .gone), (301350, .ar 31 (.str (.bool (.str .nil))))]⟩), (1, ⟨[(4, .li .i64 12)], [(1000000, .bx 73 [.sl .u 1000001, .fz .u (.str (.int .u32 (.int .u32 .nil)))]), (1000001, .ar 31 (.str (.bool (.str .nil))))]⟩)] [[.tl (.str (.int .u32 (.int .u32 .nil))), .tl (.str (.bool (.str .nil)))], [.tl (.str (.int .u32 (.int .u32 .nil))), .tl (.str (.bool (.str .nil)))]] (.sq (.nd) (.sq (.mk [] [0, 1, 3, 7, 0, 0, 63, 127]) (.sq (.nd) (.sq (.nd) (.mk [] [0, 0, 2, 6, 14, 0, 32, 126, 255, 511, 1023]))))) (.nd)))))
theorem e34 (k : Nat) (hm : Mo.m = false) (y : Tup h34) : exec (P := Tryd.prog) D (lk rowsL) [C44 k hm, C45 k] k (bodyOf Tryd.f34) n34 (fnE Tryd.f34 A34 [] (inOf A34 (ofTup h34 y))) (fnSt [] (inOf A34 (ofTup h34 y))) (leafR D (fnE Tryd.f34 A34 [] (inOf A34 (ofTup h34 y))) Tryd.f34.results.toList (R34.map (·.h)) R34) = F34 k y.1 y.2.1 y.2.2.1 y.2.2.2.1 y.2.2.2.2 := by kernel_rfl
noncomputable def C34 (k : Nat) (hm : Mo.m = false) : Con Tryd.prog := ⟨34, Tryd.f34, Tryd.func34, by kernel_rfl, by kernel_rfl, A34, h34, [], R34, fun y => F34 k y.1 y.2.1 y.2.2.1 y.2.2.2.1 y.2.2.2.2, fun y r h => con_ok good mixed (c := bodyOf Tryd.f34) Tryd.func34 (by kernel_rfl) n34 y ((e34 k hm y).trans h)⟩
noncomputable def F14 (k : Nat) (x1 : ByteArray) (x2 : ByteArray) (x3 : (List (ByteArray × Int × Int))) (x4 : (List (ByteArray × Bool × ByteArray))) : Option (Int × (List (ByteArray × Int × Int)) × (List (ByteArray × Bool × ByteArray))) :=
(F34 k x1 false x2 x3 x4).bind fun y1 => 
some (y1.1, y1.2.1, y1.2.2)
def A14 : CTpl := ⟨[.pt 1000000 0, .s, .s], [(1000000, .bx 73 [.sl .u 1000001, .fz .u (.str (.int .u32 (.int .u32 .nil)))]), (1000001, .ar 31 (.str (.bool (.str .nil))))]⟩
def h14 : List HTy := [.ts, .ts, .tl (.str (.int .u32 (.int .u32 .nil))), .tl (.str (.bool (.str .nil)))]
def R14 : List RTpl := [⟨.i .i64, [(1000000, .bx 73 [.sl .u 500000, .fz .u (.str (.int .u32 (.int .u32 .nil)))]), (1000001, .gone), (500000, .ar 31 (.str (.bool (.str .nil))))], [.ti, .tl (.str (.int .u32 (.int .u32 .nil))), .tl (.str (.bool (.str .nil)))]⟩]
def n14 : An := .nd
theorem e14 (k : Nat) (hm : Mo.m = false) (y : Tup h14) : exec (P := Tryd.prog) D (lk rowsL) [C34 k hm] k (bodyOf Tryd.f14) n14 (fnE Tryd.f14 A14 [] (inOf A14 (ofTup h14 y))) (fnSt [] (inOf A14 (ofTup h14 y))) (leafR D (fnE Tryd.f14 A14 [] (inOf A14 (ofTup h14 y))) Tryd.f14.results.toList (R14.map (·.h)) R14) = F14 k y.1 y.2.1 y.2.2.1 y.2.2.2 := by kernel_rfl
noncomputable def C14 (k : Nat) (hm : Mo.m = false) : Con Tryd.prog := ⟨14, Tryd.f14, Tryd.func14, by kernel_rfl, by kernel_rfl, A14, h14, [], R14, fun y => F14 k y.1 y.2.1 y.2.2.1 y.2.2.2, fun y r h => con_ok good mixed (c := bodyOf Tryd.f14) Tryd.func14 (by kernel_rfl) n14 y ((e14 k hm y).trans h)⟩
noncomputable def F13 (k : Nat) (x1 : ByteArray) (x2 : (List (ByteArray × Int × Int))) (x3 : (List (ByteArray × Bool × ByteArray))) : Option (Int × (List (ByteArray × Int × Int)) × (List (ByteArray × Bool × ByteArray))) :=
(F34 k x1 true ByteArray.empty x2 x3).bind fun y1 => 
some (y1.1, y1.2.1, y1.2.2)
def A13 : CTpl := ⟨[.pt 1000000 0, .s], [(1000000, .bx 73 [.sl .u 1000001, .fz .u (.str (.int .u32 (.int .u32 .nil)))]), (1000001, .ar 31 (.str (.bool (.str .nil))))]⟩
def h13 : List HTy := [.ts, .tl (.str (.int .u32 (.int .u32 .nil))), .tl (.str (.bool (.str .nil)))]
def R13 : List RTpl := [⟨.i .i64, [(1000000, .bx 73 [.sl .u 500000, .fz .u (.str (.int .u32 (.int .u32 .nil)))]), (1000001, .gone), (500000, .ar 31 (.str (.bool (.str .nil))))], [.ti, .tl (.str (.int .u32 (.int .u32 .nil))), .tl (.str (.bool (.str .nil)))]⟩]
def n13 : An := .nd
theorem e13 (k : Nat) (hm : Mo.m = false) (y : Tup h13) : exec (P := Tryd.prog) D (lk rowsL) [C34 k hm] k (bodyOf Tryd.f13) n13 (fnE Tryd.f13 A13 [] (inOf A13 (ofTup h13 y))) (fnSt [] (inOf A13 (ofTup h13 y))) (leafR D (fnE Tryd.f13 A13 [] (inOf A13 (ofTup h13 y))) Tryd.f13.results.toList (R13.map (·.h)) R13) = F13 k y.1 y.2.1 y.2.2 := by kernel_rfl
noncomputable def C13 (k : Nat) (hm : Mo.m = false) : Con Tryd.prog := ⟨13, Tryd.f13, Tryd.func13, by kernel_rfl, by kernel_rfl, A13, h13, [], R13, fun y => F13 k y.1 y.2.1 y.2.2, fun y r h => con_ok good mixed (c := bodyOf Tryd.f13) Tryd.func13 (by kernel_rfl) n13 y ((e13 k hm y).trans h)⟩
noncomputable def F56 (k : Nat) (x1 : (List ByteArray)) : Option (List ByteArray) :=
nilT x1.isEmpty (
some ([] : List ByteArray)) (
grd (decide ((([] : List ByteArray).length + x1.length) * 16 ≤ 140737488355328)) <|
some (([] : List ByteArray) ++ x1))
def A56 : CTpl := ⟨[.fz .u (.str .nil)], []⟩
def h56 : List HTy := [.tl (.str .nil)]
def R56 : List RTpl := [⟨.sl .u 500000, [(500000, .ar 9 (.str .nil))], [.tl (.str .nil)]⟩]
def n56 : An := .nd
theorem e56 (k : Nat) (y : Tup h56) : exec (P := Tryd.prog) D (lk rowsL) [] k (bodyOf Tryd.f56) n56 (fnE Tryd.f56 A56 [] (inOf A56 (ofTup h56 y))) (fnSt [] (inOf A56 (ofTup h56 y))) (leafR D (fnE Tryd.f56 A56 [] (inOf A56 (ofTup h56 y))) Tryd.f56.results.toList (R56.map (·.h)) R56) = F56 k y := by kernel_rfl
noncomputable def C56 (k : Nat) : Con Tryd.prog := ⟨56, Tryd.f56, Tryd.func56, by kernel_rfl, by kernel_rfl, A56, h56, [], R56, fun y => F56 k y, fun y r h => con_ok good mixed (c := bodyOf Tryd.f56) Tryd.func56 (by kernel_rfl) n56 y ((e56 k y).trans h)⟩
noncomputable def L64_8 (k : Nat) (z3 : (ByteArray × Nat × (List Int))) : Option ((ByteArray × Nat × (List Int)) ⊕ (ByteArray × Nat × (List Int))) :=
cond (decide (z3.2.1 < z3.1.size)) (
grd (decide ((z3.2.2.length + [((Utf8.decode z3.1 z3.2.1).1 : Int)].length) * 4 ≤ 140737488355328)) <|
some (.inl (z3.1, (z3.2.1 + (Utf8.decode z3.1 z3.2.1).2), (z3.2.2 ++ [((Utf8.decode z3.1 z3.2.1).1 : Int)])))) (
some (.inr (z3.1, z3.2.1, z3.2.2)))
noncomputable def F64 (k : Nat) (x1 : ByteArray) : Option (List Int) :=
(loopN (L64_8 k) k (x1, 0, ([] : List Int))).bind fun y4 => 
some y4.2.2
def A64 : CTpl := ⟨[.s], []⟩
def h64 : List HTy := [.ts]
def R64 : List RTpl := [⟨.sl .u 500000, [(500000, .ar 21 (.int .i32 .nil))], [.tl (.int .i32 .nil)]⟩]
def n64 : An := .sq (.nd) (.sq (.nd) (.sq (.sq (.nd) (.lp [7] [] ⟨[(3, .sl .n 300400)], [(7, .si), (300400, .ar 21 (.int .i32 .nil))]⟩ [.ts, .tn, .tl (.int .i32 .nil)] [(2, ⟨[(3, .sl .n 300425)], [(7, .si), (300425, .ar 21 (.int .i32 .nil))]⟩)] [[.ts, .tn, .tl (.int .i32 .nil)]] (.nd))) (.nd)))
theorem e64 (k : Nat) (y : Tup h64) : exec (P := Tryd.prog) D (lk rowsL) [] k (bodyOf Tryd.f64) n64 (fnE Tryd.f64 A64 [] (inOf A64 (ofTup h64 y))) (fnSt [] (inOf A64 (ofTup h64 y))) (leafR D (fnE Tryd.f64 A64 [] (inOf A64 (ofTup h64 y))) Tryd.f64.results.toList (R64.map (·.h)) R64) = F64 k y := by kernel_rfl
noncomputable def C64 (k : Nat) : Con Tryd.prog := ⟨64, Tryd.f64, Tryd.func64, by kernel_rfl, by kernel_rfl, A64, h64, [], R64, fun y => F64 k y, fun y r h => con_ok good mixed (c := bodyOf Tryd.f64) Tryd.func64 (by kernel_rfl) n64 y ((e64 k y).trans h)⟩
noncomputable def F84 (k : Nat) (x1 : Int) : Option Bool :=
some (x1 != x1)
def A84 : CTpl := ⟨[.i .i32], []⟩
def h84 : List HTy := [.ti]
def R84 : List RTpl := [⟨.b, [], [.tb]⟩]
def n84 : An := .nd
theorem e84 (k : Nat) (y : Tup h84) : exec (P := Tryd.prog) D (lk rowsL) [] k (bodyOf Tryd.f84) n84 (fnE Tryd.f84 A84 [] (inOf A84 (ofTup h84 y))) (fnSt [] (inOf A84 (ofTup h84 y))) (leafR D (fnE Tryd.f84 A84 [] (inOf A84 (ofTup h84 y))) Tryd.f84.results.toList (R84.map (·.h)) R84) = F84 k y := by kernel_rfl
noncomputable def C84 (k : Nat) : Con Tryd.prog := ⟨84, Tryd.f84, Tryd.func84, by kernel_rfl, by kernel_rfl, A84, h84, [], R84, fun y => F84 k y, fun y r h => con_ok good mixed (c := bodyOf Tryd.f84) Tryd.func84 (by kernel_rfl) n84 y ((e84 k y).trans h)⟩
noncomputable def F77 (k : Nat) (x1 : Int) (x2 : Int) : Option Int :=
(F84 k x1).bind fun y2 => 
(F84 k x2).bind fun y4 => 
cond y2 (
cond y4 (
some 0) (
some (-1))) (
cond y4 (
some 1) (
cond (decide (x1 < x2)) (
some (-1)) (
cond (decide (x2 < x1)) (
some 1) (
some 0))))
def A77 : CTpl := ⟨[.i .i32, .i .i32], []⟩
def h77 : List HTy := [.ti, .ti]
def R77 : List RTpl := [⟨.i .i64, [], [.ti]⟩]
def n77 : An := .nd
theorem e77 (k : Nat) (y : Tup h77) : exec (P := Tryd.prog) D (lk rowsL) [C84 k] k (bodyOf Tryd.f77) n77 (fnE Tryd.f77 A77 [] (inOf A77 (ofTup h77 y))) (fnSt [] (inOf A77 (ofTup h77 y))) (leafR D (fnE Tryd.f77 A77 [] (inOf A77 (ofTup h77 y))) Tryd.f77.results.toList (R77.map (·.h)) R77) = F77 k y.1 y.2 := by kernel_rfl
noncomputable def C77 (k : Nat) : Con Tryd.prog := ⟨77, Tryd.f77, Tryd.func77, by kernel_rfl, by kernel_rfl, A77, h77, [], R77, fun y => F77 k y.1 y.2, fun y r h => con_ok good mixed (c := bodyOf Tryd.f77) Tryd.func77 (by kernel_rfl) n77 y ((e77 k y).trans h)⟩
noncomputable def L65_6 (k : Nat) (x1 : (List Int)) (x2 : (List Int)) (z27 : Int) : Option (Int ⊕ (Int ⊕ Unit)) :=
cond (decide (z27 < (x1.length : Int))) (
(ix x1 z27).bind fun a28 =>
cond (decide ((x2.length : Int) ≤ z27)) (
some (.inr (.inl 1))) (
(ix x2 z27).bind fun a29 =>
(x2[z27.toNat]?).bind fun a30 =>
(F77 k a28 a30).bind fun y31 => 
cond (y31 != 0) (
some (.inr (.inl y31))) (
some (.inl (IntKind.wrap .i64 (z27 + 1)))))) (
some (.inr (.inr ())))
noncomputable def F65 (k : Nat) (x1 : (List Int)) (x2 : (List Int)) : Option Int :=
(loopN (L65_6 k x1 x2) k 0).bind fun y32 => 
sel (fun y33 =>
some y33) (fun y34 =>
cond (decide ((x1.length : Int) < (x2.length : Int))) (
some (-1)) (
some 0)) y32
def A65 : CTpl := ⟨[.fz .u (.int .i32 .nil), .sl .u 1000000], [(1000000, .ar 21 (.int .i32 .nil))]⟩
def h65 : List HTy := [.tl (.int .i32 .nil), .tl (.int .i32 .nil)]
def R65 : List RTpl := [⟨.i .i64, [], [.ti]⟩]
def n65 : An := .sq (.nd) (.sq (.sq (.nd) (.lp [0, 1, 9, 10] [] ⟨[(11, .i .i64)], []⟩ [.ti] [(1, ⟨[(4, .i .i64)], []⟩), (2, ⟨[], []⟩)] [[.ti], []] (.nd))) (.nd))
theorem e65 (k : Nat) (y : Tup h65) : exec (P := Tryd.prog) D (lk rowsL) [C77 k] k (bodyOf Tryd.f65) n65 (fnE Tryd.f65 A65 [1000000] (inOf A65 (ofTup h65 y))) (fnSt [1000000] (inOf A65 (ofTup h65 y))) (leafR D (fnE Tryd.f65 A65 [1000000] (inOf A65 (ofTup h65 y))) Tryd.f65.results.toList (R65.map (·.h)) R65) = F65 k y.1 y.2 := by kernel_rfl
noncomputable def C65 (k : Nat) : Con Tryd.prog := ⟨65, Tryd.f65, Tryd.func65, by kernel_rfl, by kernel_rfl, A65, h65, [1000000], R65, fun y => F65 k y.1 y.2, fun y r h => con_ok good mixed (c := bodyOf Tryd.f65) Tryd.func65 (by kernel_rfl) n65 y ((e65 k y).trans h)⟩
noncomputable def L65_1_6 (k : Nat) (x1 : (List Int)) (x2 : (List Int)) (z22 : Int) : Option (Int ⊕ (Int ⊕ Unit)) :=
cond (decide (z22 < (x1.length : Int))) (
(ix x1 z22).bind fun a23 =>
cond (decide ((x2.length : Int) ≤ z22)) (
some (.inr (.inl 1))) (
(ix x2 z22).bind fun a24 =>
(F77 k a23 a24).bind fun y25 => 
cond (y25 != 0) (
some (.inr (.inl y25))) (
some (.inl (IntKind.wrap .i64 (z22 + 1)))))) (
some (.inr (.inr ())))
noncomputable def F65_1 (k : Nat) (x1 : (List Int)) (x2 : (List Int)) : Option Int :=
(loopN (L65_1_6 k x1 x2) k 0).bind fun y26 => 
sel (fun y27 =>
some y27) (fun y28 =>
cond (decide ((x1.length : Int) < (x2.length : Int))) (
some (-1)) (
some 0)) y26
def A65_1 : CTpl := ⟨[.fz .u (.int .i32 .nil), .fz .u (.int .i32 .nil)], []⟩
def h65_1 : List HTy := [.tl (.int .i32 .nil), .tl (.int .i32 .nil)]
def R65_1 : List RTpl := [⟨.i .i64, [], [.ti]⟩]
def n65_1 : An := .sq (.nd) (.sq (.sq (.nd) (.lp [0, 1, 9, 10] [] ⟨[(11, .i .i64)], []⟩ [.ti] [(1, ⟨[(4, .i .i64)], []⟩), (2, ⟨[], []⟩)] [[.ti], []] (.nd))) (.nd))
theorem e65_1 (k : Nat) (y : Tup h65_1) : exec (P := Tryd.prog) D (lk rowsL) [C77 k] k (bodyOf Tryd.f65) n65_1 (fnE Tryd.f65 A65_1 [] (inOf A65_1 (ofTup h65_1 y))) (fnSt [] (inOf A65_1 (ofTup h65_1 y))) (leafR D (fnE Tryd.f65 A65_1 [] (inOf A65_1 (ofTup h65_1 y))) Tryd.f65.results.toList (R65_1.map (·.h)) R65_1) = F65_1 k y.1 y.2 := by kernel_rfl
noncomputable def C65_1 (k : Nat) : Con Tryd.prog := ⟨65, Tryd.f65, Tryd.func65, by kernel_rfl, by kernel_rfl, A65_1, h65_1, [], R65_1, fun y => F65_1 k y.1 y.2, fun y r h => con_ok good mixed (c := bodyOf Tryd.f65) Tryd.func65 (by kernel_rfl) n65_1 y ((e65_1 k y).trans h)⟩
noncomputable def F59 (k : Nat) (x1 : ByteArray) (x2 : ByteArray) : Option Int :=
(F64 k x1).bind fun y3 => 
(F64 k x2).bind fun y4 => 
(F65_1 k y3 y4).bind fun y5 => 
some y5
def A59 : CTpl := ⟨[.s, .s], []⟩
def h59 : List HTy := [.ts, .ts]
def R59 : List RTpl := [⟨.i .i64, [], [.ti]⟩]
def n59 : An := .sq (.nd) (.sq (.nd) (.sq (.fr [(2, 400800), (2, 401000)]) (.nd)))
theorem e59 (k : Nat) (y : Tup h59) : exec (P := Tryd.prog) D (lk rowsL) [C64 k, C65_1 k] k (bodyOf Tryd.f59) n59 (fnE Tryd.f59 A59 [] (inOf A59 (ofTup h59 y))) (fnSt [] (inOf A59 (ofTup h59 y))) (leafR D (fnE Tryd.f59 A59 [] (inOf A59 (ofTup h59 y))) Tryd.f59.results.toList (R59.map (·.h)) R59) = F59 k y.1 y.2 := by kernel_rfl
noncomputable def C59 (k : Nat) : Con Tryd.prog := ⟨59, Tryd.f59, Tryd.func59, by kernel_rfl, by kernel_rfl, A59, h59, [], R59, fun y => F59 k y.1 y.2, fun y r h => con_ok good mixed (c := bodyOf Tryd.f59) Tryd.func59 (by kernel_rfl) n59 y ((e59 k y).trans h)⟩
noncomputable def F60 (k : Nat) (x1 : ByteArray) (x2 : ByteArray) : Option Int :=
some (Go.Lib.compareBytes x1.data.toList x2.data.toList)
def A60 : CTpl := ⟨[.s, .s], []⟩
def h60 : List HTy := [.ts, .ts]
def R60 : List RTpl := [⟨.i .i64, [], [.ti]⟩]
def n60 : An := .nd
noncomputable def C60 (k : Nat) : Con Tryd.prog := ⟨60, Tryd.f60, Tryd.func60, by kernel_rfl, by kernel_rfl, A60, h60, [], R60, fun y => F60 k y.1 y.2, fun y r h => by
  have h2 : some (Go.Lib.compareBytes y.1.data.toList y.2.data.toList) = some r := h
  cases h2
  exact CTx.lib (vs := [.string y.1, .string y.2]) rfl (fun _ _ _ => .t _ _ (.sc _ rfl)) fun w _ => (Tryd.strings_Compare y.1 y.2 w).mono fun e w2 g => ⟨g.1, by rw [g.2]; exact Below.refl _ _, fun _ => by rw [g.2]; exact Nat.le_refl _⟩⟩
noncomputable def F58 (k : Nat) (x1 : ByteArray) (x2 : ByteArray) : Option Int :=
(F59 k x1 x2).bind fun y3 => 
cond (y3 != 0) (
some y3) (
(F60 k x1 x2).bind fun y4 => 
some y4)
def A58 : CTpl := ⟨[.s, .s], []⟩
def h58 : List HTy := [.ts, .ts]
def R58 : List RTpl := [⟨.i .i64, [], [.ti]⟩]
def n58 : An := .nd
theorem e58 (k : Nat) (y : Tup h58) : exec (P := Tryd.prog) D (lk rowsL) [C59 k, C60 k] k (bodyOf Tryd.f58) n58 (fnE Tryd.f58 A58 [] (inOf A58 (ofTup h58 y))) (fnSt [] (inOf A58 (ofTup h58 y))) (leafR D (fnE Tryd.f58 A58 [] (inOf A58 (ofTup h58 y))) Tryd.f58.results.toList (R58.map (·.h)) R58) = F58 k y.1 y.2 := by kernel_rfl
noncomputable def C58 (k : Nat) : Con Tryd.prog := ⟨58, Tryd.f58, Tryd.func58, by kernel_rfl, by kernel_rfl, A58, h58, [], R58, fun y => F58 k y.1 y.2, fun y r h => con_ok good mixed (c := bodyOf Tryd.f58) Tryd.func58 (by kernel_rfl) n58 y ((e58 k y).trans h)⟩
noncomputable def F57 (k : Nat) (x1 : (List ByteArray)) : Option (List ByteArray) :=
sortF (F58 k) x1
def A57 : CTpl := ⟨[.sl .u 1000000, .c (.func (.func 58) #[] #[])], [(1000000, .ar 9 (.str .nil))]⟩
def h57 : List HTy := [.tl (.str .nil)]
def R57 : List RTpl := [⟨.tp [], [(1000000, .ar 9 (.str .nil))], [.tl (.str .nil)]⟩]
def n57 : An := .nd
noncomputable def C57 (k : Nat) : Con Tryd.prog := ⟨57, Tryd.f57, Tryd.func57, by kernel_rfl, by kernel_rfl, A57, h57, [], R57, fun y => F57 k y, fun y r h => by
  have h2 : sortF (F58 k) y = some r := h
  exact CTx.sortFunc (ρ := Tryd.laysSlF6_f57_ren) Tryd.laysSlF6_f57 { Tryd.laysSlF6_f57 with } (enters Tryd.func58 (by kernel_rfl) (by kernel_rfl)) (fun a b n g => @Con.ok ⟨true⟩ _ (@C58 ⟨true⟩ k) (a, b) n g) 9 h2⟩
noncomputable def L61_32 (k : Nat) (z156 : (Int × (List ByteArray))) (z161 : (Int × Int × (List ByteArray))) : Option ((Int × Int × (List ByteArray)) ⊕ (Int × (List ByteArray))) :=
cond (decide (z161.2.1 < (((((z156.2.length : Int).toNat) - z156.1.toNat) : Nat) : Int))) (
((grd (decide (0 ≤ z161.2.1 ∧ z161.2.1 < (((((z156.2.length : Int).toNat) - z156.1.toNat) : Nat) : Int))) <|
(z161.2.2[(z156.1.toNat + z161.2.1.toNat)]?).bind fun a162 =>
grd (decide (0 ≤ (IntKind.wrap .i64 (z161.2.1 - 1)) ∧ (IntKind.wrap .i64 (z161.2.1 - 1)) < (((((z156.2.length : Int).toNat) - z156.1.toNat) : Nat) : Int))) <|
(z161.2.2[(z156.1.toNat + ((IntKind.wrap .i64 (z161.2.1 - 1)).toNat))]?).bind fun a163 =>
cond (!(a162.toList == a163.toList)) (
grd (decide (0 ≤ z161.2.1 ∧ z161.2.1 < (((((z156.2.length : Int).toNat) - z156.1.toNat) : Nat) : Int))) <|
(z161.2.2[(z156.1.toNat + z161.2.1.toNat)]?).bind fun a164 =>
(ix z161.2.2 z161.1).bind fun a165 =>
((z161.2.2[z161.1.toNat]?).bind fun a166 => some a164).bind fun a167 =>
some ((IntKind.wrap .i64 (z161.1 + 1)), (z161.2.2.set z161.1.toNat a167))) (
some (z161.1, z161.2.2)) : Option (Int × (List ByteArray)))).bind fun y168 => 
some (.inl (y168.1, (IntKind.wrap .i64 (z161.2.1 + 1)), y168.2))) (
some (.inr (z161.1, z161.2.2)))
noncomputable def L61_14 (k : Nat) (z156 : (Int × (List ByteArray))) : Option ((Int × (List ByteArray)) ⊕ ((Nat × Nat × (List ByteArray)) ⊕ (List ByteArray))) :=
cond (decide (z156.1 < (z156.2.length : Int))) (
(ix z156.2 z156.1).bind fun a157 =>
(z156.2[z156.1.toNat]?).bind fun a158 =>
(ix z156.2 (IntKind.wrap .i64 (z156.1 - 1))).bind fun a159 =>
(z156.2[(IntKind.wrap .i64 (z156.1 - 1)).toNat]?).bind fun a160 =>
cond (a158.toList == a160.toList) (
grd (bnds (z156.2.length : Int) z156.1 (z156.2.length : Int)) <|
(loopN (L61_32 k z156) k (z156.1, 1, z156.2)).bind fun y169 => 
grd (bnds (y169.2.length : Int) y169.1 (y169.2.length : Int)) <|
grd (bnds ((y169.2.take y169.1.toNat ++ List.replicate (((y169.2.length : Int).toNat) - y169.1.toNat) ByteArray.empty ++ y169.2.drop (y169.1.toNat + (((y169.2.length : Int).toNat) - y169.1.toNat))).length : Int) 0 y169.1) <|
some (.inr (.inl (0, (y169.1.toNat - 0), (y169.2.take y169.1.toNat ++ List.replicate (((y169.2.length : Int).toNat) - y169.1.toNat) ByteArray.empty ++ y169.2.drop (y169.1.toNat + (((y169.2.length : Int).toNat) - y169.1.toNat))))))) (
some (.inl ((IntKind.wrap .i64 (z156.1 + 1)), z156.2)))) (
some (.inr (.inr z156.2)))
noncomputable def F61 (k : Nat) (x1 : (List ByteArray)) : Option (List ByteArray) :=
cond (decide ((x1.length : Int) < 2)) (
some x1) (
(loopN (L61_14 k) k (1, x1)).bind fun y170 => 
sel (fun y171 =>
some ((y171.2.2.drop y171.1).take y171.2.1)) (fun y172 =>
some y172) y170)
def A61 : CTpl := ⟨[.sl .u 1000000], [(1000000, .ar 9 (.str .nil))]⟩
def h61 : List HTy := [.tl (.str .nil)]
def R61 : List RTpl := [⟨.fz .u (.str .nil), [(1000000, .gone)], [.tl (.str .nil)]⟩]
def n61 : An := .sq (.nd) (.sq (.nd) (.sq (.sq (.nd) (.lp [0] [] ⟨[(3, .i .i64)], [(1000000, .ar 9 (.str .nil))]⟩ [.ti, .tl (.str .nil)] [(1, ⟨[(2, .sw 1000000)], [(1000000, .ar 9 (.str .nil))]⟩), (2, ⟨[], [(1000000, .ar 9 (.str .nil))]⟩)] [[.tn, .tn, .tl (.str .nil)], [.tl (.str .nil)]] (.sq (.nd) (.sq (.sq (.mk [] [0, 0, 3, 7, 0, 0, 32, 112, 240, 511]) (.sq (.sq (.nd) (.sq (.sq (.nd) (.lp [4] [] ⟨[(3, .i .i64), (5, .i .i64)], [(1000000, .ar 9 (.str .nil))]⟩ [.ti, .ti, .tl (.str .nil)] [(4, ⟨[(3, .i .i64)], [(1000000, .ar 9 (.str .nil))]⟩)] [[.ti, .tl (.str .nil)]] (.sq (.nd) (.jn [5] [] [(0, ⟨[(3, .i .i64)], [(1000000, .ar 9 (.str .nil))]⟩)] [[.ti, .tl (.str .nil)]] (.sq (.mk [] [0, 0, 3, 7, 0, 0, 32, 112, 240, 511]) (.nd)) (.nd))))) (.nd))) (.nd))) (.nd))))) (.nd)))
theorem e61 (k : Nat) (y : Tup h61) : exec (P := Tryd.prog) D (lk rowsL) [] k (bodyOf Tryd.f61) n61 (fnE Tryd.f61 A61 [] (inOf A61 (ofTup h61 y))) (fnSt [] (inOf A61 (ofTup h61 y))) (leafR D (fnE Tryd.f61 A61 [] (inOf A61 (ofTup h61 y))) Tryd.f61.results.toList (R61.map (·.h)) R61) = F61 k y := by kernel_rfl
noncomputable def C61 (k : Nat) : Con Tryd.prog := ⟨61, Tryd.f61, Tryd.func61, by kernel_rfl, by kernel_rfl, A61, h61, [], R61, fun y => F61 k y, fun y r h => con_ok good mixed (c := bodyOf Tryd.f61) Tryd.func61 (by kernel_rfl) n61 y ((e61 k y).trans h)⟩
noncomputable def F52 (k : Nat) (x1 : (List ByteArray)) : Option (List ByteArray) :=
(F56 k x1).bind fun y2 => 
(F57 k y2).bind fun y4 => 
(F61 k y4).bind fun y5 => 
some y5
def A52 : CTpl := ⟨[.fz .u (.str .nil)], []⟩
def h52 : List HTy := [.tl (.str .nil)]
def R52 : List RTpl := [⟨.fz .u (.str .nil), [], [.tl (.str .nil)]⟩]
def n52 : An := .nd
theorem e52 (k : Nat) (y : Tup h52) : exec (P := Tryd.prog) D (lk rowsL) [C56 k, C57 k, C61 k] k (bodyOf Tryd.f52) n52 (fnE Tryd.f52 A52 [] (inOf A52 (ofTup h52 y))) (fnSt [] (inOf A52 (ofTup h52 y))) (leafR D (fnE Tryd.f52 A52 [] (inOf A52 (ofTup h52 y))) Tryd.f52.results.toList (R52.map (·.h)) R52) = F52 k y := by kernel_rfl
noncomputable def C52 (k : Nat) : Con Tryd.prog := ⟨52, Tryd.f52, Tryd.func52, by kernel_rfl, by kernel_rfl, A52, h52, [], R52, fun y => F52 k y, fun y r h => con_ok good mixed (c := bodyOf Tryd.f52) Tryd.func52 (by kernel_rfl) n52 y ((e52 k y).trans h)⟩
noncomputable def L48_8 (k : Nat) (x1 : (List (ByteArray × Bool × ByteArray))) (z13 : (Int × (List ByteArray))) : Option ((Int × (List ByteArray)) ⊕ (List ByteArray)) :=
cond (decide (z13.1 < (x1.length : Int))) (
(ix x1 z13.1).bind fun a14 =>
(x1[z13.1.toNat]?).bind fun a15 =>
grd (decide ((z13.2.length + [a15.1].length) * 16 ≤ 140737488355328)) <|
some (.inl ((IntKind.wrap .i64 (z13.1 + 1)), (z13.2 ++ [a15.1])))) (
some (.inr z13.2))
noncomputable def F48 (k : Nat) (x1 : (List (ByteArray × Bool × ByteArray))) : Option (List ByteArray) :=
(loopN (L48_8 k x1) k (0, ([] : List ByteArray))).bind fun y16 => 
(F52 k y16).bind fun y17 => 
some y17
def A48 : CTpl := ⟨[.sl .u 1000000], [(1000000, .ar 31 (.str (.bool (.str .nil))))]⟩
def h48 : List HTy := [.tl (.str (.bool (.str .nil)))]
def R48 : List RTpl := [⟨.fz .u (.str .nil), [], [.tl (.str .nil)]⟩]
def n48 : An := .sq (.nd) (.sq (.nd) (.sq (.sq (.nd) (.lp [6, 7] [] ⟨[(3, .sl .n 300400), (8, .i .i64)], [(300400, .ar 9 (.str .nil))]⟩ [.ti, .tl (.str .nil)] [(2, ⟨[(3, .sl .n 300425)], [(300425, .ar 9 (.str .nil))]⟩)] [[.tl (.str .nil)]] (.nd))) (.sq (.fr [(1, 300425)]) (.nd))))
theorem e48 (k : Nat) (y : Tup h48) : exec (P := Tryd.prog) D (lk rowsL) [C52 k] k (bodyOf Tryd.f48) n48 (fnE Tryd.f48 A48 [1000000] (inOf A48 (ofTup h48 y))) (fnSt [1000000] (inOf A48 (ofTup h48 y))) (leafR D (fnE Tryd.f48 A48 [1000000] (inOf A48 (ofTup h48 y))) Tryd.f48.results.toList (R48.map (·.h)) R48) = F48 k y := by kernel_rfl
noncomputable def C48 (k : Nat) : Con Tryd.prog := ⟨48, Tryd.f48, Tryd.func48, by kernel_rfl, by kernel_rfl, A48, h48, [1000000], R48, fun y => F48 k y, fun y r h => con_ok good mixed (c := bodyOf Tryd.f48) Tryd.func48 (by kernel_rfl) n48 y ((e48 k y).trans h)⟩
noncomputable def L43_6 (k : Nat) (x1 : ByteArray) (x2 : (List (ByteArray × Bool × ByteArray))) (z21 : (Int × ByteArray × ByteArray)) : Option ((Int × ByteArray × ByteArray) ⊕ ((ByteArray × Bool × ByteArray) ⊕ (ByteArray × ByteArray))) :=
cond (decide (0 ≤ z21.1)) (
(ix x2 z21.1).bind fun a22 =>
(x2[z21.1.toNat]?).bind fun a23 =>
cond (a23.1.toList == x1.toList) (
(ix x2 z21.1).bind fun a24 =>
(x2[z21.1.toNat]?).bind fun a25 =>
some (.inr (.inl (a25.1, a25.2.1, a25.2.2)))) (
some (.inl ((IntKind.wrap .i64 (z21.1 - 1)), z21.2.1, z21.2.2)))) (
some (.inr (.inr (z21.2.1, z21.2.2))))
noncomputable def F43 (k : Nat) (x1 : ByteArray) (x2 : (List (ByteArray × Bool × ByteArray))) : Option (ByteArray × Bool × ByteArray × Bool) :=
(loopN (L43_6 k x1 x2) k ((IntKind.wrap .i64 ((x2.length : Int) - 1)), ByteArray.empty, ByteArray.empty)).bind fun y26 => 
sel (fun y27 =>
some (y27.1, y27.2.1, y27.2.2, true)) (fun y28 =>
some (ByteArray.empty, false, ByteArray.empty, false)) y26
def A43 : CTpl := ⟨[.sl .u 1000000, .s], [(1000000, .ar 31 (.str (.bool (.str .nil))))]⟩
def h43 : List HTy := [.ts, .tl (.str (.bool (.str .nil)))]
def R43 : List RTpl := [⟨.tp [.ag [.s, .b, .s], .b], [], [.ts, .tb, .ts, .tb]⟩]
def n43 : An := .sq (.nd) (.sq (.sq (.nd) (.lp [0, 1, 4] [] ⟨[(6, .i .i64)], [(4, .bx 31 [.s, .lb false, .s])]⟩ [.ti, .ts, .ts] [(1, ⟨[(5, .lb true)], [(4, .bx 31 [.s, .b, .s])]⟩), (2, ⟨[], [(4, .bx 31 [.s, .lb false, .s])]⟩)] [[.ts, .tb, .ts], [.ts, .ts]] (.nd))) (.nd))
theorem e43 (k : Nat) (y : Tup h43) : exec (P := Tryd.prog) D (lk rowsL) [] k (bodyOf Tryd.f43) n43 (fnE Tryd.f43 A43 [1000000] (inOf A43 (ofTup h43 y))) (fnSt [1000000] (inOf A43 (ofTup h43 y))) (leafR D (fnE Tryd.f43 A43 [1000000] (inOf A43 (ofTup h43 y))) Tryd.f43.results.toList (R43.map (·.h)) R43) = F43 k y.1 y.2 := by kernel_rfl
noncomputable def C43 (k : Nat) : Con Tryd.prog := ⟨43, Tryd.f43, Tryd.func43, by kernel_rfl, by kernel_rfl, A43, h43, [1000000], R43, fun y => F43 k y.1 y.2, fun y r h => con_ok good mixed (c := bodyOf Tryd.f43) Tryd.func43 (by kernel_rfl) n43 y ((e43 k y).trans h)⟩
noncomputable def L36_8 (k : Nat) (x1 : (List (ByteArray × Bool × ByteArray))) (y22 : (List ByteArray)) (z23 : (Int × (List (ByteArray × Bool × ByteArray)))) : Option ((Int × (List (ByteArray × Bool × ByteArray))) ⊕ (List (ByteArray × Bool × ByteArray))) :=
cond (decide (z23.1 < (y22.length : Int))) (
(ix y22 z23.1).bind fun a24 =>
(F43 k a24 x1).bind fun y25 => 
((cond y25.2.1 (
some (y25.1, y25.2.1, (⟨#[]⟩ : ByteArray))) (
some (y25.1, y25.2.1, y25.2.2.1)) : Option (ByteArray × Bool × ByteArray))).bind fun y26 => 
grd (decide ((z23.2.length + [(y26.1, y26.2.1, y26.2.2)].length) * 40 ≤ 140737488355328)) <|
some (.inl ((IntKind.wrap .i64 (z23.1 + 1)), (z23.2 ++ [(y26.1, y26.2.1, y26.2.2)])))) (
some (.inr z23.2))
noncomputable def F36 (k : Nat) (x1 : (List (ByteArray × Bool × ByteArray))) : Option (List (ByteArray × Bool × ByteArray)) :=
(F48 k x1).bind fun y22 => 
(loopN (L36_8 k x1 y22) k (0, ([] : List (ByteArray × Bool × ByteArray)))).bind fun y27 => 
some y27
def A36 : CTpl := ⟨[.sl .u 1000000], [(1000000, .ar 31 (.str (.bool (.str .nil))))]⟩
def h36 : List HTy := [.tl (.str (.bool (.str .nil)))]
def R36 : List RTpl := [⟨.sl .u 500000, [(500000, .ar 31 (.str (.bool (.str .nil))))], [.tl (.str (.bool (.str .nil)))]⟩]
def n36 : An := .sq (.nd) (.sq (.nd) (.sq (.sq (.nd) (.lp [0, 9, 10] [] ⟨[(3, .sl .n 300400), (11, .i .i64)], [(300400, .ar 31 (.str (.bool (.str .nil))))]⟩ [.ti, .tl (.str (.bool (.str .nil)))] [(2, ⟨[(3, .sl .n 300425)], [(300425, .ar 31 (.str (.bool (.str .nil))))]⟩)] [[.tl (.str (.bool (.str .nil)))]] (.sq (.nd) (.sq (.nd) (.sq (.sq (.nd) (.sq (.nd) (.jn [3, 6, 11] [300400] [(0, ⟨[], [(6, .bx 31 [.s, .b, .s])]⟩)] [[.ts, .tb, .ts]] (.nd) (.nd)))) (.nd)))))) (.nd)))
theorem e36 (k : Nat) (y : Tup h36) : exec (P := Tryd.prog) D (lk rowsL) [C48 k, C43 k] k (bodyOf Tryd.f36) n36 (fnE Tryd.f36 A36 [1000000] (inOf A36 (ofTup h36 y))) (fnSt [1000000] (inOf A36 (ofTup h36 y))) (leafR D (fnE Tryd.f36 A36 [1000000] (inOf A36 (ofTup h36 y))) Tryd.f36.results.toList (R36.map (·.h)) R36) = F36 k y := by kernel_rfl
noncomputable def C36 (k : Nat) : Con Tryd.prog := ⟨36, Tryd.f36, Tryd.func36, by kernel_rfl, by kernel_rfl, A36, h36, [1000000], R36, fun y => F36 k y, fun y r h => con_ok good mixed (c := bodyOf Tryd.f36) Tryd.func36 (by kernel_rfl) n36 y ((e36 k y).trans h)⟩
noncomputable def F18 (k : Nat) (x1 : (List (ByteArray × Int × Int))) (x2 : (List (ByteArray × Bool × ByteArray))) : Option (List (ByteArray × Bool × ByteArray)) :=
(F36 k x2).bind fun y1 => 
some y1
def A18 : CTpl := ⟨[.pt 1000000 0], [(1000000, .bx 73 [.sl .u 1000001, .fz .u (.str (.int .u32 (.int .u32 .nil)))]), (1000001, .ar 31 (.str (.bool (.str .nil))))]⟩
def h18 : List HTy := [.tl (.str (.int .u32 (.int .u32 .nil))), .tl (.str (.bool (.str .nil)))]
def R18 : List RTpl := [⟨.sl .u 500000, [(500000, .ar 31 (.str (.bool (.str .nil))))], [.tl (.str (.bool (.str .nil)))]⟩]
def n18 : An := .nd
theorem e18 (k : Nat) (y : Tup h18) : exec (P := Tryd.prog) D (lk rowsL) [C36 k] k (bodyOf Tryd.f18) n18 (fnE Tryd.f18 A18 [1000000, 1000001] (inOf A18 (ofTup h18 y))) (fnSt [1000000, 1000001] (inOf A18 (ofTup h18 y))) (leafR D (fnE Tryd.f18 A18 [1000000, 1000001] (inOf A18 (ofTup h18 y))) Tryd.f18.results.toList (R18.map (·.h)) R18) = F18 k y.1 y.2 := by kernel_rfl
noncomputable def C18 (k : Nat) : Con Tryd.prog := ⟨18, Tryd.f18, Tryd.func18, by kernel_rfl, by kernel_rfl, A18, h18, [1000000, 1000001], R18, fun y => F18 k y.1 y.2, fun y r h => con_ok good mixed (c := bodyOf Tryd.f18) Tryd.func18 (by kernel_rfl) n18 y ((e18 k y).trans h)⟩
noncomputable def F10 (k : Nat) : Option Bool :=
(F9 k).bind fun y2 => 
(F14 k (⟨#[97]⟩ : ByteArray) (⟨#[49]⟩ : ByteArray) y2.1 y2.2).bind fun y5 => 
(F13 k (⟨#[97]⟩ : ByteArray) y5.2.1 y5.2.2).bind fun y6 => 
(F18 k y6.2.1 y6.2.2).bind fun y8 => 
cond (y5.1 == 0) (
cond (y6.1 == 0) (
cond ((y8.length : Int) == 1) (
(ix y8 0).bind fun a9 =>
(y8[0]?).bind fun a10 =>
some ((a10.1.toList == (⟨#[97]⟩ : ByteArray).toList) && ((a10.2.1 == true) && ((a10.2.2.toList == ByteArray.empty.toList) && true)))) (
some false)) (
some false)) (
some false)
def A10 : CTpl := ⟨[], []⟩
def h10 : List HTy := []
def R10 : List RTpl := [⟨.b, [], [.tb]⟩]
def n10 : An := .nd
theorem e10 (k : Nat) (hm : Mo.m = false) (y : Tup h10) : exec (P := Tryd.prog) D (lk rowsL) [C9 k, C14 k hm, C13 k hm, C18 k] k (bodyOf Tryd.f10) n10 (fnE Tryd.f10 A10 [] (inOf A10 (ofTup h10 y))) (fnSt [] (inOf A10 (ofTup h10 y))) (leafR D (fnE Tryd.f10 A10 [] (inOf A10 (ofTup h10 y))) Tryd.f10.results.toList (R10.map (·.h)) R10) = F10 k := by kernel_rfl
noncomputable def C10 (k : Nat) (hm : Mo.m = false) : Con Tryd.prog := ⟨10, Tryd.f10, Tryd.func10, by kernel_rfl, by kernel_rfl, A10, h10, [], R10, fun y => F10 k, fun y r h => con_ok good mixed (c := bodyOf Tryd.f10) Tryd.func10 (by kernel_rfl) n10 y ((e10 k hm y).trans h)⟩
noncomputable def F24 (k : Nat) (x1 : Int) (x2 : Int) : Option Int :=
grd (x2 != 0) <|
((cond (decide ((x1.tmod x2) < 0)) (
some (IntKind.wrap .i64 ((x1.tmod x2) + x2))) (
some (x1.tmod x2)) : Option Int)).bind fun y1 => 
some y1
def A24 : CTpl := ⟨[.i .i64, .i .i64], []⟩
def h24 : List HTy := [.ti, .ti]
def R24 : List RTpl := [⟨.i .i64, [], [.ti]⟩]
def n24 : An := .sq (.nd) (.sq (.nd) (.jn [] [] [(0, ⟨[(0, .i .i64)], []⟩)] [[.ti]] (.nd) (.nd)))
theorem e24 (k : Nat) (y : Tup h24) : exec (P := Tryd.prog) D (lk rowsL) [] k (bodyOf Tryd.f24) n24 (fnE Tryd.f24 A24 [] (inOf A24 (ofTup h24 y))) (fnSt [] (inOf A24 (ofTup h24 y))) (leafR D (fnE Tryd.f24 A24 [] (inOf A24 (ofTup h24 y))) Tryd.f24.results.toList (R24.map (·.h)) R24) = F24 k y.1 y.2 := by kernel_rfl
noncomputable def C24 (k : Nat) : Con Tryd.prog := ⟨24, Tryd.f24, Tryd.func24, by kernel_rfl, by kernel_rfl, A24, h24, [], R24, fun y => F24 k y.1 y.2, fun y r h => con_ok good mixed (c := bodyOf Tryd.f24) Tryd.func24 (by kernel_rfl) n24 y ((e24 k y).trans h)⟩
noncomputable def F11 (k : Nat) (x1 : Int) : Option ByteArray :=
(F24 k x1 12).bind fun y1 => 
(ix namesT y1).bind fun a2 =>
some a2
def A11 : CTpl := ⟨[.i .i64], []⟩
def h11 : List HTy := [.ti]
def R11 : List RTpl := [⟨.s, [], [.ts]⟩]
def n11 : An := .nd
theorem e11 (k : Nat) (y : Tup h11) : exec (P := Tryd.prog) D (lk rowsL) [C24 k] k (bodyOf Tryd.f11) n11 (fnE Tryd.f11 A11 [] (inOf A11 (ofTup h11 y))) (fnSt [] (inOf A11 (ofTup h11 y))) (leafR D (fnE Tryd.f11 A11 [] (inOf A11 (ofTup h11 y))) Tryd.f11.results.toList (R11.map (·.h)) R11) = F11 k y := by kernel_rfl
noncomputable def C11 (k : Nat) : Con Tryd.prog := ⟨11, Tryd.f11, Tryd.func11, by kernel_rfl, by kernel_rfl, A11, h11, [], R11, fun y => F11 k y, fun y r h => con_ok good mixed (c := bodyOf Tryd.f11) Tryd.func11 (by kernel_rfl) n11 y ((e11 k y).trans h)⟩
noncomputable def L32_8 (k : Nat) (x1 : Int) (z21 : (Int × (List Int))) : Option ((Int × (List Int)) ⊕ (List Int)) :=
cond (decide (z21.1 < (z21.2.length : Int))) (
(ix z21.2 z21.1).bind fun a22 =>
((z21.2[z21.1.toNat]?).bind fun a23 => some x1).bind fun a24 =>
some (.inl ((IntKind.wrap .i64 (z21.1 + 1)), (z21.2.set z21.1.toNat a24)))) (
some (.inr z21.2))
noncomputable def F32 (k : Nat) (x1 : Int) (x2 : Int) : Option ByteArray :=
grd (decide (0 ≤ (mx x2 0) ∧ (mx x2 0) ≤ 9223372036854775807 ∧ 1 * ((mx x2 0).toNat) ≤ 281474976710656)) <|
(loopN (L32_8 k x1) k (0, (List.replicate ((mx x2 0).toNat) 0))).bind fun y25 => 
some (strOfNums y25)
def A32 : CTpl := ⟨[.i .u8, .i .i64], []⟩
def h32 : List HTy := [.ti, .ti]
def R32 : List RTpl := [⟨.s, [], [.ts]⟩]
def n32 : An := .sq (.nd) (.sq (.nd) (.sq (.sq (.nd) (.lp [0, 5] [] ⟨[(6, .i .i64)], [(9, .ar 5 (.int .u8 .nil))]⟩ [.ti, .tl (.int .u8 .nil)] [(2, ⟨[], [(9, .ar 5 (.int .u8 .nil))]⟩)] [[.tl (.int .u8 .nil)]] (.nd))) (.nd)))
theorem e32 (k : Nat) (y : Tup h32) : exec (P := Tryd.prog) D (lk rowsL) [] k (bodyOf Tryd.f32) n32 (fnE Tryd.f32 A32 [] (inOf A32 (ofTup h32 y))) (fnSt [] (inOf A32 (ofTup h32 y))) (leafR D (fnE Tryd.f32 A32 [] (inOf A32 (ofTup h32 y))) Tryd.f32.results.toList (R32.map (·.h)) R32) = F32 k y.1 y.2 := by kernel_rfl
noncomputable def C32 (k : Nat) : Con Tryd.prog := ⟨32, Tryd.f32, Tryd.func32, by kernel_rfl, by kernel_rfl, A32, h32, [], R32, fun y => F32 k y.1 y.2, fun y r h => con_ok good mixed (c := bodyOf Tryd.f32) Tryd.func32 (by kernel_rfl) n32 y ((e32 k y).trans h)⟩
noncomputable def F33 (k : Nat) (x1 : ByteArray) (x2 : Int) : Option ByteArray :=
grd (bnds (x1.size : Int) 0 (mn (x1.size : Int) x2)) <|
some (x1.extract 0 ((mn (x1.size : Int) x2).toNat))
def A33 : CTpl := ⟨[.s, .i .i64], []⟩
def h33 : List HTy := [.ts, .ti]
def R33 : List RTpl := [⟨.s, [], [.ts]⟩]
def n33 : An := .nd
theorem e33 (k : Nat) (y : Tup h33) : exec (P := Tryd.prog) D (lk rowsL) [] k (bodyOf Tryd.f33) n33 (fnE Tryd.f33 A33 [] (inOf A33 (ofTup h33 y))) (fnSt [] (inOf A33 (ofTup h33 y))) (leafR D (fnE Tryd.f33 A33 [] (inOf A33 (ofTup h33 y))) Tryd.f33.results.toList (R33.map (·.h)) R33) = F33 k y.1 y.2 := by kernel_rfl
noncomputable def C33 (k : Nat) : Con Tryd.prog := ⟨33, Tryd.f33, Tryd.func33, by kernel_rfl, by kernel_rfl, A33, h33, [], R33, fun y => F33 k y.1 y.2, fun y r h => con_ok good mixed (c := bodyOf Tryd.f33) Tryd.func33 (by kernel_rfl) n33 y ((e33 k y).trans h)⟩
noncomputable def F12 (k : Nat) (x1 : ByteArray) (x2 : Int) : Option ByteArray :=
(((F24 k x2 9).bind fun y4 => 
cond (y4 == 8) (
(F32 k 120 40).bind fun y5 => 
grd (decide (x1.size + y5.size ≤ 9223372036854775807)) <|
some (x1 ++ y5)) (
some x1) : Option ByteArray)).bind fun y6 => 
(F33 k y6 48).bind fun y7 => 
some y7
def A12 : CTpl := ⟨[.s, .i .i64], []⟩
def h12 : List HTy := [.ts, .ti]
def R12 : List RTpl := [⟨.s, [], [.ts]⟩]
def n12 : An := .sq (.nd) (.jn [] [] [(0, ⟨[(0, .s)], []⟩)] [[.ts]] (.nd) (.nd))
theorem e12 (k : Nat) (y : Tup h12) : exec (P := Tryd.prog) D (lk rowsL) [C24 k, C32 k, C33 k] k (bodyOf Tryd.f12) n12 (fnE Tryd.f12 A12 [] (inOf A12 (ofTup h12 y))) (fnSt [] (inOf A12 (ofTup h12 y))) (leafR D (fnE Tryd.f12 A12 [] (inOf A12 (ofTup h12 y))) Tryd.f12.results.toList (R12.map (·.h)) R12) = F12 k y.1 y.2 := by kernel_rfl
noncomputable def C12 (k : Nat) : Con Tryd.prog := ⟨12, Tryd.f12, Tryd.func12, by kernel_rfl, by kernel_rfl, A12, h12, [], R12, fun y => F12 k y.1 y.2, fun y r h => con_ok good mixed (c := bodyOf Tryd.f12) Tryd.func12 (by kernel_rfl) n12 y ((e12 k y).trans h)⟩
noncomputable def L15_6 (k : Nat) (x1 : (List (ByteArray × Bool × ByteArray))) (x2 : ByteArray) (z13 : (Int × ByteArray × ByteArray)) : Option ((Int × ByteArray × ByteArray) ⊕ ((ByteArray × Bool × ByteArray) ⊕ (ByteArray × ByteArray))) :=
cond (decide (0 ≤ z13.1)) (
(ix x1 z13.1).bind fun a14 =>
cond (a14.1.toList == x2.toList) (
(ix x1 z13.1).bind fun a15 =>
some (.inr (.inl (a15.1, a15.2.1, a15.2.2)))) (
some (.inl ((IntKind.wrap .i64 (z13.1 - 1)), z13.2.1, z13.2.2)))) (
some (.inr (.inr (z13.2.1, z13.2.2))))
noncomputable def F15 (k : Nat) (x1 : (List (ByteArray × Bool × ByteArray))) (x2 : ByteArray) : Option (ByteArray × Bool × ByteArray × Bool) :=
(loopN (L15_6 k x1 x2) k ((IntKind.wrap .i64 ((x1.length : Int) - 1)), ByteArray.empty, ByteArray.empty)).bind fun y16 => 
sel (fun y17 =>
some (y17.1, y17.2.1, y17.2.2, true)) (fun y18 =>
some (ByteArray.empty, false, ByteArray.empty, false)) y16
def A15 : CTpl := ⟨[.fz .u (.str (.bool (.str .nil))), .s], []⟩
def h15 : List HTy := [.tl (.str (.bool (.str .nil))), .ts]
def R15 : List RTpl := [⟨.tp [.ag [.s, .b, .s], .b], [], [.ts, .tb, .ts, .tb]⟩]
def n15 : An := .sq (.nd) (.sq (.sq (.nd) (.lp [0, 1, 4] [] ⟨[(6, .i .i64)], [(4, .bx 31 [.s, .lb false, .s])]⟩ [.ti, .ts, .ts] [(1, ⟨[(5, .lb true)], [(4, .bx 31 [.s, .b, .s])]⟩), (2, ⟨[], [(4, .bx 31 [.s, .lb false, .s])]⟩)] [[.ts, .tb, .ts], [.ts, .ts]] (.nd))) (.nd))
theorem e15 (k : Nat) (y : Tup h15) : exec (P := Tryd.prog) D (lk rowsL) [] k (bodyOf Tryd.f15) n15 (fnE Tryd.f15 A15 [] (inOf A15 (ofTup h15 y))) (fnSt [] (inOf A15 (ofTup h15 y))) (leafR D (fnE Tryd.f15 A15 [] (inOf A15 (ofTup h15 y))) Tryd.f15.results.toList (R15.map (·.h)) R15) = F15 k y.1 y.2 := by kernel_rfl
noncomputable def C15 (k : Nat) : Con Tryd.prog := ⟨15, Tryd.f15, Tryd.func15, by kernel_rfl, by kernel_rfl, A15, h15, [], R15, fun y => F15 k y.1 y.2, fun y r h => con_ok good mixed (c := bodyOf Tryd.f15) Tryd.func15 (by kernel_rfl) n15 y ((e15 k y).trans h)⟩
noncomputable def F53 (k : Nat) (x1 : ByteArray) (x2 : Int) (x3 : Int) (x4 : Int) : Option Bool :=
cond (decide (x2 < (x1.size : Int))) (
grd (decide (0 ≤ x2 ∧ x2 < (x1.size : Int))) <|
cond (decide (x3 ≤ (bt x1 x2))) (
grd (decide (0 ≤ x2 ∧ x2 < (x1.size : Int))) <|
some (decide ((bt x1 x2) ≤ x4))) (
some false)) (
some false)
def A53 : CTpl := ⟨[.s, .i .i64, .i .u8, .i .u8], []⟩
def h53 : List HTy := [.ts, .ti, .ti, .ti]
def R53 : List RTpl := [⟨.b, [], [.tb]⟩]
def n53 : An := .nd
theorem e53 (k : Nat) (y : Tup h53) : exec (P := Tryd.prog) D (lk rowsL) [] k (bodyOf Tryd.f53) n53 (fnE Tryd.f53 A53 [] (inOf A53 (ofTup h53 y))) (fnSt [] (inOf A53 (ofTup h53 y))) (leafR D (fnE Tryd.f53 A53 [] (inOf A53 (ofTup h53 y))) Tryd.f53.results.toList (R53.map (·.h)) R53) = F53 k y.1 y.2.1 y.2.2.1 y.2.2.2 := by kernel_rfl
noncomputable def C53 (k : Nat) : Con Tryd.prog := ⟨53, Tryd.f53, Tryd.func53, by kernel_rfl, by kernel_rfl, A53, h53, [], R53, fun y => F53 k y.1 y.2.1 y.2.2.1 y.2.2.2, fun y r h => con_ok good mixed (c := bodyOf Tryd.f53) Tryd.func53 (by kernel_rfl) n53 y ((e53 k y).trans h)⟩
noncomputable def F49 (k : Nat) (x1 : ByteArray) (x2 : Int) : Option (Int × Int) :=
grd (decide (0 ≤ x2 ∧ x2 < (x1.size : Int))) <|
cond (decide ((bt x1 x2) < 128)) (
some ((IntKind.wrap .i64 (bt x1 x2)), 1)) (
((cond (decide (194 ≤ (bt x1 x2))) (
cond (decide ((bt x1 x2) ≤ 223)) (
(F53 k x1 (IntKind.wrap .i64 (x2 + 1)) 128 191).bind fun y4 => 
some y4) (
some false)) (
some false) : Option Bool)).bind fun y5 => 
cond y5 (
grd (decide (0 ≤ (IntKind.wrap .i64 (x2 + 1)) ∧ (IntKind.wrap .i64 (x2 + 1)) < (x1.size : Int))) <|
some ((IntKind.wrap .i64 ((IntKind.wrap .i64 ((IntKind.wrap .i64 (bits .and .u8 (bt x1 x2) 31)) * 64)) + (IntKind.wrap .i64 (bits .and .u8 (bt x1 (IntKind.wrap .i64 (x2 + 1))) 63)))), 2)) (
((cond ((bt x1 x2) == 224) (
some (160, 191)) (
cond ((bt x1 x2) == 237) (
some (128, 159)) (
cond ((bt x1 x2) == 240) (
some (144, 191)) (
cond ((bt x1 x2) == 244) (
some (128, 143)) (
some (128, 191))))) : Option (Int × Int))).bind fun y6 => 
((cond (decide (224 ≤ (bt x1 x2))) (
cond (decide ((bt x1 x2) ≤ 239)) (
(F53 k x1 (IntKind.wrap .i64 (x2 + 1)) y6.1 y6.2).bind fun y12 => 
cond y12 (
(F53 k x1 (IntKind.wrap .i64 (x2 + 2)) 128 191).bind fun y13 => 
some y13) (
some false)) (
some false)) (
some false) : Option Bool)).bind fun y14 => 
cond y14 (
grd (decide (0 ≤ (IntKind.wrap .i64 (x2 + 1)) ∧ (IntKind.wrap .i64 (x2 + 1)) < (x1.size : Int))) <|
grd (decide (0 ≤ (IntKind.wrap .i64 (x2 + 2)) ∧ (IntKind.wrap .i64 (x2 + 2)) < (x1.size : Int))) <|
some ((IntKind.wrap .i64 ((IntKind.wrap .i64 ((IntKind.wrap .i64 ((IntKind.wrap .i64 (bits .and .u8 (bt x1 x2) 15)) * 4096)) + (IntKind.wrap .i64 ((IntKind.wrap .i64 (bits .and .u8 (bt x1 (IntKind.wrap .i64 (x2 + 1))) 63)) * 64)))) + (IntKind.wrap .i64 (bits .and .u8 (bt x1 (IntKind.wrap .i64 (x2 + 2))) 63)))), 3)) (
((cond (decide (240 ≤ (bt x1 x2))) (
cond (decide ((bt x1 x2) ≤ 244)) (
(F53 k x1 (IntKind.wrap .i64 (x2 + 1)) y6.1 y6.2).bind fun y22 => 
cond y22 (
(F53 k x1 (IntKind.wrap .i64 (x2 + 2)) 128 191).bind fun y23 => 
cond y23 (
(F53 k x1 (IntKind.wrap .i64 (x2 + 3)) 128 191).bind fun y24 => 
some y24) (
some false)) (
some false)) (
some false)) (
some false) : Option Bool)).bind fun y25 => 
cond y25 (
grd (decide (0 ≤ (IntKind.wrap .i64 (x2 + 1)) ∧ (IntKind.wrap .i64 (x2 + 1)) < (x1.size : Int))) <|
grd (decide (0 ≤ (IntKind.wrap .i64 (x2 + 2)) ∧ (IntKind.wrap .i64 (x2 + 2)) < (x1.size : Int))) <|
grd (decide (0 ≤ (IntKind.wrap .i64 (x2 + 3)) ∧ (IntKind.wrap .i64 (x2 + 3)) < (x1.size : Int))) <|
some ((IntKind.wrap .i64 ((IntKind.wrap .i64 ((IntKind.wrap .i64 ((IntKind.wrap .i64 ((IntKind.wrap .i64 (bits .and .u8 (bt x1 x2) 7)) * 262144)) + (IntKind.wrap .i64 ((IntKind.wrap .i64 (bits .and .u8 (bt x1 (IntKind.wrap .i64 (x2 + 1))) 63)) * 4096)))) + (IntKind.wrap .i64 ((IntKind.wrap .i64 (bits .and .u8 (bt x1 (IntKind.wrap .i64 (x2 + 2))) 63)) * 64)))) + (IntKind.wrap .i64 (bits .and .u8 (bt x1 (IntKind.wrap .i64 (x2 + 3))) 63)))), 4)) (
some (65533, 1)))))
def A49 : CTpl := ⟨[.s, .i .i64], []⟩
def h49 : List HTy := [.ts, .ti]
def R49 : List RTpl := [⟨.tp [.i .i64, .i .i64], [], [.ti, .ti]⟩]
def n49 : An := .sq (.nd) (.sq (.nd) (.sq (.sq (.nd) (.sq (.nd) (.jn [0, 1, 6] [] [(0, ⟨[(17, .b)], []⟩)] [[.tb]] (.nd) (.nd)))) (.sq (.nd) (.jn [0, 1, 6] [] [(0, ⟨[(7, .i .u8), (8, .i .u8)], []⟩)] [[.ti, .ti]] (.nd) (.sq (.jn [0, 1, 6, 7, 8] [] [(0, ⟨[(69, .b)], []⟩)] [[.tb]] (.nd) (.sq (.sq (.mk [] [0, 1, 3, 7, 0, 0, 32, 112, 240, 496, 1008, 2047, 0, 0, 8192, 28672, 61440, 126976, 262143, 524287, 1048575]) (.nd)) (.nd))) (.sq (.jn [0, 1, 6] [] [(0, ⟨[(114, .b)], []⟩)] [[.tb]] (.nd) (.sq (.sq (.mk [] [0, 1, 3, 7, 0, 0, 32, 112, 240, 496, 1008, 2047, 0, 0, 8192, 28672, 61440, 126976, 258048, 524287, 0, 0, 2097152, 7340032, 15728640, 32505856, 67108863, 134217727, 268435455]) (.nd)) (.nd))) (.nd)))))))
theorem e49 (k : Nat) (y : Tup h49) : exec (P := Tryd.prog) D (lk rowsL) [C53 k] k (bodyOf Tryd.f49) n49 (fnE Tryd.f49 A49 [] (inOf A49 (ofTup h49 y))) (fnSt [] (inOf A49 (ofTup h49 y))) (leafR D (fnE Tryd.f49 A49 [] (inOf A49 (ofTup h49 y))) Tryd.f49.results.toList (R49.map (·.h)) R49) = F49 k y.1 y.2 := by kernel_rfl
noncomputable def C49 (k : Nat) : Con Tryd.prog := ⟨49, Tryd.f49, Tryd.func49, by kernel_rfl, by kernel_rfl, A49, h49, [], R49, fun y => F49 k y.1 y.2, fun y r h => con_ok good mixed (c := bodyOf Tryd.f49) Tryd.func49 (by kernel_rfl) n49 y ((e49 k y).trans h)⟩
noncomputable def L37_8 (k : Nat) (x1 : ByteArray) (z8 : (Int × (List Int) × (List Int))) : Option ((Int × (List Int) × (List Int)) ⊕ ((List Int) × (List Int))) :=
cond (decide (z8.1 < (x1.size : Int))) (
(F49 k x1 z8.1).bind fun y9 => 
grd (decide ((z8.2.1.length + [y9.1].length) * 8 ≤ 140737488355328)) <|
grd (decide ((z8.2.2.length + [y9.2].length) * 8 ≤ 140737488355328)) <|
some (.inl ((IntKind.wrap .i64 (z8.1 + y9.2)), (z8.2.1 ++ [y9.1]), (z8.2.2 ++ [y9.2])))) (
some (.inr (z8.2.1, z8.2.2)))
noncomputable def F37 (k : Nat) (x1 : ByteArray) : Option ((List Int) × (List Int)) :=
(loopN (L37_8 k x1) k (0, ([] : List Int), ([] : List Int))).bind fun y10 => 
some (y10.1, y10.2)
def A37 : CTpl := ⟨[.s], []⟩
def h37 : List HTy := [.ts]
def R37 : List RTpl := [⟨.tp [.sl .u 500000, .sl .u 500001], [(500000, .ar 3 (.int .i64 .nil)), (500001, .ar 3 (.int .i64 .nil))], [.tl (.int .i64 .nil), .tl (.int .i64 .nil)]⟩]
def n37 : An := .sq (.nd) (.sq (.nd) (.sq (.sq (.nd) (.lp [0] [] ⟨[(4, .sl .n 300400), (5, .sl .n 300401), (6, .i .i64)], [(300400, .ar 3 (.int .i64 .nil)), (300401, .ar 3 (.int .i64 .nil))]⟩ [.ti, .tl (.int .i64 .nil), .tl (.int .i64 .nil)] [(2, ⟨[(4, .sl .n 300425), (5, .sl .n 300426)], [(300425, .ar 3 (.int .i64 .nil)), (300426, .ar 3 (.int .i64 .nil))]⟩)] [[.tl (.int .i64 .nil), .tl (.int .i64 .nil)]] (.nd))) (.nd)))
theorem e37 (k : Nat) (y : Tup h37) : exec (P := Tryd.prog) D (lk rowsL) [C49 k] k (bodyOf Tryd.f37) n37 (fnE Tryd.f37 A37 [] (inOf A37 (ofTup h37 y))) (fnSt [] (inOf A37 (ofTup h37 y))) (leafR D (fnE Tryd.f37 A37 [] (inOf A37 (ofTup h37 y))) Tryd.f37.results.toList (R37.map (·.h)) R37) = F37 k y := by kernel_rfl
noncomputable def C37 (k : Nat) : Con Tryd.prog := ⟨37, Tryd.f37, Tryd.func37, by kernel_rfl, by kernel_rfl, A37, h37, [], R37, fun y => F37 k y, fun y r h => con_ok good mixed (c := bodyOf Tryd.f37) Tryd.func37 (by kernel_rfl) n37 y ((e37 k y).trans h)⟩
noncomputable def L55_10 (k : Nat) (y2 : ((List Int) × (List Int))) (y4 : ((List Int) × (List Int))) (z40 : Int) : Option (Int ⊕ Int) :=
((cond (decide (z40 < (y2.1.length : Int))) (
cond (decide (z40 < (y4.1.length : Int))) (
(ix y2.1 z40).bind fun a41 =>
(y2.1[z40.toNat]?).bind fun a42 =>
(ix y4.1 z40).bind fun a43 =>
(y4.1[z40.toNat]?).bind fun a44 =>
some (a42 == a44)) (
some false)) (
some false) : Option Bool)).bind fun y45 => 
cond y45 (
some (.inl (IntKind.wrap .i64 (z40 + 1)))) (
some (.inr z40))
noncomputable def F55 (k : Nat) (x1 : ByteArray) (x2 : ByteArray) : Option Int :=
(F37 k x1).bind fun y2 => 
(F37 k x2).bind fun y4 => 
(loopN (L55_10 k y2 y4) k 0).bind fun y46 => 
some y46
def A55 : CTpl := ⟨[.s, .s], []⟩
def h55 : List HTy := [.ts, .ts]
def R55 : List RTpl := [⟨.i .i64, [], [.ti]⟩]
def n55 : An := .sq (.nd) (.sq (.nd) (.sq (.nd) (.sq (.nd) (.sq (.lp [5, 7] [401200, 401700] ⟨[(9, .i .i64)], []⟩ [.ti] [(2, ⟨[(9, .i .i64)], []⟩)] [[.ti]] (.sq (.jn [9] [] [(0, ⟨[(40, .b)], []⟩)] [[.tb]] (.mk [] [0, 0, 2, 7, 15, 31, 31, 95, 255, 511, 1023, 2047, 2047, 8191, 16383, 2047, 2047, 100351, 231423, 524287, 1048575]) (.nd)) (.nd))) (.nd)))))
theorem e55 (k : Nat) (y : Tup h55) : exec (P := Tryd.prog) D (lk rowsL) [C37 k] k (bodyOf Tryd.f55) n55 (fnE Tryd.f55 A55 [] (inOf A55 (ofTup h55 y))) (fnSt [] (inOf A55 (ofTup h55 y))) (leafR D (fnE Tryd.f55 A55 [] (inOf A55 (ofTup h55 y))) Tryd.f55.results.toList (R55.map (·.h)) R55) = F55 k y.1 y.2 := by kernel_rfl
noncomputable def C55 (k : Nat) : Con Tryd.prog := ⟨55, Tryd.f55, Tryd.func55, by kernel_rfl, by kernel_rfl, A55, h55, [], R55, fun y => F55 k y.1 y.2, fun y r h => con_ok good mixed (c := bodyOf Tryd.f55) Tryd.func55 (by kernel_rfl) n55 y ((e55 k y).trans h)⟩
noncomputable def F51 (k : Nat) (x1 : ByteArray) (x2 : ByteArray) : Option Int :=
(F37 k x1).bind fun y2 => 
(F37 k x2).bind fun y4 => 
(F55 k x1 x2).bind fun y6 => 
((cond (y6 == (y2.1.length : Int)) (
some (y6 == (y4.1.length : Int))) (
some false) : Option Bool)).bind fun y12 => 
cond y12 (
some 0) (
cond (y6 == (y2.1.length : Int)) (
some (-1)) (
cond (y6 == (y4.1.length : Int)) (
some 1) (
(ix y2.1 y6).bind fun a13 =>
(y2.1[y6.toNat]?).bind fun a14 =>
(ix y4.1 y6).bind fun a15 =>
(y4.1[y6.toNat]?).bind fun a16 =>
cond (decide (a14 < a16)) (
some (-1)) (
some 1))))
def A51 : CTpl := ⟨[.s, .s], []⟩
def h51 : List HTy := [.ts, .ts]
def R51 : List RTpl := [⟨.i .i64, [], [.ti]⟩]
def n51 : An := .sq (.nd) (.sq (.nd) (.sq (.nd) (.sq (.nd) (.sq (.jn [5, 7, 9] [401200, 401700] [(0, ⟨[(23, .b)], []⟩)] [[.tb]] (.nd) (.sq (.nd) (.sq (.nd) (.sq (.nd) (.sq (.nd) (.sq (.nd) (.sq (.mk [] [0, 0, 3, 7, 0, 0, 48, 112, 255, 511]) (.nd)))))))) (.nd)))))
theorem e51 (k : Nat) (y : Tup h51) : exec (P := Tryd.prog) D (lk rowsL) [C37 k, C55 k] k (bodyOf Tryd.f51) n51 (fnE Tryd.f51 A51 [] (inOf A51 (ofTup h51 y))) (fnSt [] (inOf A51 (ofTup h51 y))) (leafR D (fnE Tryd.f51 A51 [] (inOf A51 (ofTup h51 y))) Tryd.f51.results.toList (R51.map (·.h)) R51) = F51 k y.1 y.2 := by kernel_rfl
noncomputable def C51 (k : Nat) : Con Tryd.prog := ⟨51, Tryd.f51, Tryd.func51, by kernel_rfl, by kernel_rfl, A51, h51, [], R51, fun y => F51 k y.1 y.2, fun y r h => con_ok good mixed (c := bodyOf Tryd.f51) Tryd.func51 (by kernel_rfl) n51 y ((e51 k y).trans h)⟩
noncomputable def F47 (k : Nat) (x1 : ByteArray) (x2 : ByteArray) : Option Bool :=
(F51 k x1 x2).bind fun y2 => 
cond (decide (y2 < 0)) (
some true) (
cond (y2 == 0) (
some (Op.bytesLess x1.toList x2.toList)) (
some false))
def A47 : CTpl := ⟨[.s, .s], []⟩
def h47 : List HTy := [.ts, .ts]
def R47 : List RTpl := [⟨.b, [], [.tb]⟩]
def n47 : An := .nd
theorem e47 (k : Nat) (y : Tup h47) : exec (P := Tryd.prog) D (lk rowsL) [C51 k] k (bodyOf Tryd.f47) n47 (fnE Tryd.f47 A47 [] (inOf A47 (ofTup h47 y))) (fnSt [] (inOf A47 (ofTup h47 y))) (leafR D (fnE Tryd.f47 A47 [] (inOf A47 (ofTup h47 y))) Tryd.f47.results.toList (R47.map (·.h)) R47) = F47 k y.1 y.2 := by kernel_rfl
noncomputable def C47 (k : Nat) : Con Tryd.prog := ⟨47, Tryd.f47, Tryd.func47, by kernel_rfl, by kernel_rfl, A47, h47, [], R47, fun y => F47 k y.1 y.2, fun y r h => con_ok good mixed (c := bodyOf Tryd.f47) Tryd.func47 (by kernel_rfl) n47 y ((e47 k y).trans h)⟩
noncomputable def L35_21 (k : Nat) (x1 : (List ByteArray)) (z115 : (Int × (List ByteArray))) (z116 : Int) : Option (Int ⊕ Int) :=
((cond (decide (z116 < (z115.2.length : Int))) (
(ix z115.2 z116).bind fun a117 =>
(z115.2[z116.toNat]?).bind fun a118 =>
(ix x1 z115.1).bind fun a119 =>
(F47 k a118 a119).bind fun y120 => 
some y120) (
some false) : Option Bool)).bind fun y121 => 
cond y121 (
some (.inl (IntKind.wrap .i64 (z116 + 1)))) (
some (.inr z116))
noncomputable def L35_8 (k : Nat) (x1 : (List ByteArray)) (z115 : (Int × (List ByteArray))) : Option ((Int × (List ByteArray)) ⊕ (List ByteArray)) :=
cond (decide (z115.1 < (x1.length : Int))) (
(((loopN (L35_21 k x1 z115) k 0).bind fun y122 => 
((cond (decide (y122 < (z115.2.length : Int))) (
(ix z115.2 y122).bind fun a123 =>
(z115.2[y122.toNat]?).bind fun a124 =>
(ix x1 z115.1).bind fun a125 =>
some (a124.toList == a125.toList)) (
some false) : Option Bool)).bind fun y126 => 
cond y126 (
some z115.2) (
grd (bnds (z115.2.length : Int) 0 y122) <|
grd (decide ((([] : List ByteArray).length + ((z115.2.drop 0).take (y122.toNat - 0)).length) * 16 ≤ 140737488355328)) <|
(ix x1 z115.1).bind fun a127 =>
grd (decide (((([] : List ByteArray) ++ ((z115.2.drop 0).take (y122.toNat - 0))).length + [a127].length) * 16 ≤ 140737488355328)) <|
grd (bnds (z115.2.length : Int) y122 (z115.2.length : Int)) <|
grd (decide ((((([] : List ByteArray) ++ ((z115.2.drop 0).take (y122.toNat - 0))) ++ [a127]).length + ((z115.2.drop y122.toNat).take (((z115.2.length : Int).toNat) - y122.toNat)).length) * 16 ≤ 140737488355328)) <|
some (((([] : List ByteArray) ++ ((z115.2.drop 0).take (y122.toNat - 0))) ++ [a127]) ++ ((z115.2.drop y122.toNat).take (((z115.2.length : Int).toNat) - y122.toNat)))) : Option (List ByteArray))).bind fun y128 => 
some (.inl ((IntKind.wrap .i64 (z115.1 + 1)), y128))) (
some (.inr z115.2))
noncomputable def F35 (k : Nat) (x1 : (List ByteArray)) : Option (List ByteArray) :=
(loopN (L35_8 k x1) k (0, ([] : List ByteArray))).bind fun y129 => 
some y129
def A35 : CTpl := ⟨[.fz .u (.str .nil)], []⟩
def h35 : List HTy := [.tl (.str .nil)]
def R35 : List RTpl := [⟨.sl .u 500000, [(500000, .ar 9 (.str .nil))], [.tl (.str .nil)]⟩]
def n35 : An := .sq (.nd) (.sq (.nd) (.sq (.sq (.nd) (.lp [0] [] ⟨[(3, .sl .n 300400), (4, .i .i64)], [(300400, .ar 9 (.str .nil))]⟩ [.ti, .tl (.str .nil)] [(2, ⟨[(3, .sl .n 300425)], [(300425, .ar 9 (.str .nil))]⟩)] [[.tl (.str .nil)]] (.sq (.nd) (.jn [4] [] [(0, ⟨[(3, .sl .n 300750)], [(300750, .ar 9 (.str .nil))]⟩)] [[.tl (.str .nil)]] (.sq (.nd) (.sq (.lp [3] [300400] ⟨[(5, .i .i64)], []⟩ [.ti] [(4, ⟨[(5, .i .i64)], []⟩)] [[.ti]] (.sq (.jn [5] [] [(0, ⟨[(26, .b)], []⟩)] [[.tb]] (.mk [] [0, 0, 2, 7, 15, 31, 31, 127, 255, 31, 31, 1567, 3615, 8191, 16383]) (.nd)) (.nd))) (.sq (.jn [3, 5] [300400] [(0, ⟨[(43, .b)], []⟩)] [[.tb]] (.mk [] [0, 0, 2, 7, 15, 31, 31, 127, 255, 31, 31, 1567, 3615, 8191, 16383]) (.nd)) (.mk [] [0, 0, 3, 7, 0, 0, 48, 112, 240, 511, 0, 0, 3072, 8191, 16383])))) (.nd))))) (.nd)))
theorem e35 (k : Nat) (y : Tup h35) : exec (P := Tryd.prog) D (lk rowsL) [C47 k] k (bodyOf Tryd.f35) n35 (fnE Tryd.f35 A35 [] (inOf A35 (ofTup h35 y))) (fnSt [] (inOf A35 (ofTup h35 y))) (leafR D (fnE Tryd.f35 A35 [] (inOf A35 (ofTup h35 y))) Tryd.f35.results.toList (R35.map (·.h)) R35) = F35 k y := by kernel_rfl
noncomputable def C35 (k : Nat) : Con Tryd.prog := ⟨35, Tryd.f35, Tryd.func35, by kernel_rfl, by kernel_rfl, A35, h35, [], R35, fun y => F35 k y, fun y r h => con_ok good mixed (c := bodyOf Tryd.f35) Tryd.func35 (by kernel_rfl) n35 y ((e35 k y).trans h)⟩
noncomputable def L16_8 (k : Nat) (x1 : (List (ByteArray × Bool × ByteArray))) (z8 : (Int × (List ByteArray))) : Option ((Int × (List ByteArray)) ⊕ (List ByteArray)) :=
cond (decide (z8.1 < (x1.length : Int))) (
(ix x1 z8.1).bind fun a9 =>
grd (decide ((z8.2.length + [a9.1].length) * 16 ≤ 140737488355328)) <|
some (.inl ((IntKind.wrap .i64 (z8.1 + 1)), (z8.2 ++ [a9.1])))) (
some (.inr z8.2))
noncomputable def F16 (k : Nat) (x1 : (List (ByteArray × Bool × ByteArray))) : Option (List ByteArray) :=
(loopN (L16_8 k x1) k (0, ([] : List ByteArray))).bind fun y10 => 
(F35 k y10).bind fun y11 => 
some y11
def A16 : CTpl := ⟨[.fz .u (.str (.bool (.str .nil)))], []⟩
def h16 : List HTy := [.tl (.str (.bool (.str .nil)))]
def R16 : List RTpl := [⟨.sl .u 500000, [(500000, .ar 9 (.str .nil))], [.tl (.str .nil)]⟩]
def n16 : An := .sq (.nd) (.sq (.nd) (.sq (.sq (.nd) (.lp [0] [] ⟨[(3, .sl .n 300400), (4, .i .i64)], [(300400, .ar 9 (.str .nil))]⟩ [.ti, .tl (.str .nil)] [(2, ⟨[(3, .sl .n 300425)], [(300425, .ar 9 (.str .nil))]⟩)] [[.tl (.str .nil)]] (.nd))) (.sq (.fr [(1, 300425)]) (.nd))))
theorem e16 (k : Nat) (y : Tup h16) : exec (P := Tryd.prog) D (lk rowsL) [C35 k] k (bodyOf Tryd.f16) n16 (fnE Tryd.f16 A16 [] (inOf A16 (ofTup h16 y))) (fnSt [] (inOf A16 (ofTup h16 y))) (leafR D (fnE Tryd.f16 A16 [] (inOf A16 (ofTup h16 y))) Tryd.f16.results.toList (R16.map (·.h)) R16) = F16 k y := by kernel_rfl
noncomputable def C16 (k : Nat) : Con Tryd.prog := ⟨16, Tryd.f16, Tryd.func16, by kernel_rfl, by kernel_rfl, A16, h16, [], R16, fun y => F16 k y, fun y r h => con_ok good mixed (c := bodyOf Tryd.f16) Tryd.func16 (by kernel_rfl) n16 y ((e16 k y).trans h)⟩
noncomputable def L15_1_6 (k : Nat) (x1 : ByteArray) (x2 : (List (ByteArray × Bool × ByteArray))) (z21 : (Int × ByteArray × ByteArray)) : Option ((Int × ByteArray × ByteArray) ⊕ ((ByteArray × Bool × ByteArray) ⊕ (ByteArray × ByteArray))) :=
cond (decide (0 ≤ z21.1)) (
(ix x2 z21.1).bind fun a22 =>
(x2[z21.1.toNat]?).bind fun a23 =>
cond (a23.1.toList == x1.toList) (
(ix x2 z21.1).bind fun a24 =>
(x2[z21.1.toNat]?).bind fun a25 =>
some (.inr (.inl (a25.1, a25.2.1, a25.2.2)))) (
some (.inl ((IntKind.wrap .i64 (z21.1 - 1)), z21.2.1, z21.2.2)))) (
some (.inr (.inr (z21.2.1, z21.2.2))))
noncomputable def F15_1 (k : Nat) (x1 : ByteArray) (x2 : (List (ByteArray × Bool × ByteArray))) : Option (ByteArray × Bool × ByteArray × Bool) :=
(loopN (L15_1_6 k x1 x2) k ((IntKind.wrap .i64 ((x2.length : Int) - 1)), ByteArray.empty, ByteArray.empty)).bind fun y26 => 
sel (fun y27 =>
some (y27.1, y27.2.1, y27.2.2, true)) (fun y28 =>
some (ByteArray.empty, false, ByteArray.empty, false)) y26
def A15_1 : CTpl := ⟨[.sl .u 1000000, .s], [(1000000, .ar 31 (.str (.bool (.str .nil))))]⟩
def h15_1 : List HTy := [.ts, .tl (.str (.bool (.str .nil)))]
def R15_1 : List RTpl := [⟨.tp [.ag [.s, .b, .s], .b], [], [.ts, .tb, .ts, .tb]⟩]
def n15_1 : An := .sq (.nd) (.sq (.sq (.nd) (.lp [0, 1, 4] [] ⟨[(6, .i .i64)], [(4, .bx 31 [.s, .lb false, .s])]⟩ [.ti, .ts, .ts] [(1, ⟨[(5, .lb true)], [(4, .bx 31 [.s, .b, .s])]⟩), (2, ⟨[], [(4, .bx 31 [.s, .lb false, .s])]⟩)] [[.ts, .tb, .ts], [.ts, .ts]] (.nd))) (.nd))
theorem e15_1 (k : Nat) (y : Tup h15_1) : exec (P := Tryd.prog) D (lk rowsL) [] k (bodyOf Tryd.f15) n15_1 (fnE Tryd.f15 A15_1 [1000000] (inOf A15_1 (ofTup h15_1 y))) (fnSt [1000000] (inOf A15_1 (ofTup h15_1 y))) (leafR D (fnE Tryd.f15 A15_1 [1000000] (inOf A15_1 (ofTup h15_1 y))) Tryd.f15.results.toList (R15_1.map (·.h)) R15_1) = F15_1 k y.1 y.2 := by kernel_rfl
noncomputable def C15_1 (k : Nat) : Con Tryd.prog := ⟨15, Tryd.f15, Tryd.func15, by kernel_rfl, by kernel_rfl, A15_1, h15_1, [1000000], R15_1, fun y => F15_1 k y.1 y.2, fun y r h => con_ok good mixed (c := bodyOf Tryd.f15) Tryd.func15 (by kernel_rfl) n15_1 y ((e15_1 k y).trans h)⟩
noncomputable def L16_1_8 (k : Nat) (x1 : (List (ByteArray × Bool × ByteArray))) (z13 : (Int × (List ByteArray))) : Option ((Int × (List ByteArray)) ⊕ (List ByteArray)) :=
cond (decide (z13.1 < (x1.length : Int))) (
(ix x1 z13.1).bind fun a14 =>
(x1[z13.1.toNat]?).bind fun a15 =>
grd (decide ((z13.2.length + [a15.1].length) * 16 ≤ 140737488355328)) <|
some (.inl ((IntKind.wrap .i64 (z13.1 + 1)), (z13.2 ++ [a15.1])))) (
some (.inr z13.2))
noncomputable def F16_1 (k : Nat) (x1 : (List (ByteArray × Bool × ByteArray))) : Option (List ByteArray) :=
(loopN (L16_1_8 k x1) k (0, ([] : List ByteArray))).bind fun y16 => 
(F35 k y16).bind fun y17 => 
some y17
def A16_1 : CTpl := ⟨[.sl .u 1000000], [(1000000, .ar 31 (.str (.bool (.str .nil))))]⟩
def h16_1 : List HTy := [.tl (.str (.bool (.str .nil)))]
def R16_1 : List RTpl := [⟨.sl .u 500000, [(500000, .ar 9 (.str .nil))], [.tl (.str .nil)]⟩]
def n16_1 : An := .sq (.nd) (.sq (.nd) (.sq (.sq (.nd) (.lp [0] [] ⟨[(3, .sl .n 300400), (4, .i .i64)], [(300400, .ar 9 (.str .nil))]⟩ [.ti, .tl (.str .nil)] [(2, ⟨[(3, .sl .n 300425)], [(300425, .ar 9 (.str .nil))]⟩)] [[.tl (.str .nil)]] (.nd))) (.sq (.fr [(1, 300425)]) (.nd))))
theorem e16_1 (k : Nat) (y : Tup h16_1) : exec (P := Tryd.prog) D (lk rowsL) [C35 k] k (bodyOf Tryd.f16) n16_1 (fnE Tryd.f16 A16_1 [1000000] (inOf A16_1 (ofTup h16_1 y))) (fnSt [1000000] (inOf A16_1 (ofTup h16_1 y))) (leafR D (fnE Tryd.f16 A16_1 [1000000] (inOf A16_1 (ofTup h16_1 y))) Tryd.f16.results.toList (R16_1.map (·.h)) R16_1) = F16_1 k y := by kernel_rfl
noncomputable def C16_1 (k : Nat) : Con Tryd.prog := ⟨16, Tryd.f16, Tryd.func16, by kernel_rfl, by kernel_rfl, A16_1, h16_1, [1000000], R16_1, fun y => F16_1 k y, fun y r h => con_ok good mixed (c := bodyOf Tryd.f16) Tryd.func16 (by kernel_rfl) n16_1 y ((e16_1 k y).trans h)⟩
noncomputable def L19_10 (k : Nat) (x1 : (List (ByteArray × Bool × ByteArray))) (y2 : (List ByteArray)) (z31 : (Int × (List (ByteArray × Bool × ByteArray)))) : Option ((Int × (List (ByteArray × Bool × ByteArray))) ⊕ (List (ByteArray × Bool × ByteArray))) :=
cond (decide (z31.1 < (y2.length : Int))) (
(ix y2 z31.1).bind fun a32 =>
(y2[z31.1.toNat]?).bind fun a33 =>
(F15 k x1 a33).bind fun y34 => 
((cond y34.2.1 (
some (y34.1, y34.2.1, (⟨#[]⟩ : ByteArray))) (
some (y34.1, y34.2.1, y34.2.2.1)) : Option (ByteArray × Bool × ByteArray))).bind fun y35 => 
grd (decide ((z31.2.length + [(y35.1, y35.2.1, y35.2.2)].length) * 40 ≤ 140737488355328)) <|
some (.inl ((IntKind.wrap .i64 (z31.1 + 1)), (z31.2 ++ [(y35.1, y35.2.1, y35.2.2)])))) (
some (.inr z31.2))
noncomputable def F19 (k : Nat) (x1 : (List (ByteArray × Bool × ByteArray))) : Option (List (ByteArray × Bool × ByteArray)) :=
(F16 k x1).bind fun y2 => 
(loopN (L19_10 k x1 y2) k (0, ([] : List (ByteArray × Bool × ByteArray)))).bind fun y36 => 
some y36
def A19 : CTpl := ⟨[.fz .u (.str (.bool (.str .nil)))], []⟩
def h19 : List HTy := [.tl (.str (.bool (.str .nil)))]
def R19 : List RTpl := [⟨.sl .u 500000, [(500000, .ar 31 (.str (.bool (.str .nil))))], [.tl (.str (.bool (.str .nil)))]⟩]
def n19 : An := .sq (.nd) (.sq (.nd) (.sq (.nd) (.sq (.sq (.nd) (.lp [0, 3] [400900] ⟨[(4, .sl .n 300500), (5, .i .i64)], [(300500, .ar 31 (.str (.bool (.str .nil))))]⟩ [.ti, .tl (.str (.bool (.str .nil)))] [(2, ⟨[(4, .sl .n 300525)], [(300525, .ar 31 (.str (.bool (.str .nil))))]⟩)] [[.tl (.str (.bool (.str .nil)))]] (.sq (.nd) (.sq (.sq (.nd) (.jn [4, 5, 6] [300500] [(0, ⟨[], [(6, .bx 31 [.s, .b, .s])]⟩)] [[.ts, .tb, .ts]] (.nd) (.nd))) (.nd))))) (.nd))))
theorem e19 (k : Nat) (y : Tup h19) : exec (P := Tryd.prog) D (lk rowsL) [C16 k, C15 k] k (bodyOf Tryd.f19) n19 (fnE Tryd.f19 A19 [] (inOf A19 (ofTup h19 y))) (fnSt [] (inOf A19 (ofTup h19 y))) (leafR D (fnE Tryd.f19 A19 [] (inOf A19 (ofTup h19 y))) Tryd.f19.results.toList (R19.map (·.h)) R19) = F19 k y := by kernel_rfl
noncomputable def C19 (k : Nat) : Con Tryd.prog := ⟨19, Tryd.f19, Tryd.func19, by kernel_rfl, by kernel_rfl, A19, h19, [], R19, fun y => F19 k y, fun y r h => con_ok good mixed (c := bodyOf Tryd.f19) Tryd.func19 (by kernel_rfl) n19 y ((e19 k y).trans h)⟩
noncomputable def L17_14 (k : Nat) (x1 : (List (ByteArray × Bool × ByteArray))) (x2 : (List (ByteArray × Bool × ByteArray))) (z20 : Int) : Option (Int ⊕ (Unit ⊕ Unit)) :=
cond (decide (z20 < (x1.length : Int))) (
(ix x1 z20).bind fun a21 =>
(ix x2 z20).bind fun a22 =>
(x2[z20.toNat]?).bind fun a23 =>
cond (!((a21.1.toList == a23.1.toList) && ((a21.2.1 == a23.2.1) && ((a21.2.2.toList == a23.2.2.toList) && true)))) (
some (.inr (.inl ()))) (
some (.inl (IntKind.wrap .i64 (z20 + 1))))) (
some (.inr (.inr ())))
noncomputable def F17 (k : Nat) (x1 : (List (ByteArray × Bool × ByteArray))) (x2 : (List (ByteArray × Bool × ByteArray))) : Option Bool :=
cond ((x1.length : Int) != (x2.length : Int)) (
some false) (
(loopN (L17_14 k x1 x2) k 0).bind fun y24 => 
sel (fun y25 =>
some false) (fun y26 =>
some true) y24)
def A17 : CTpl := ⟨[.fz .u (.str (.bool (.str .nil))), .sl .u 1000000], [(1000000, .ar 31 (.str (.bool (.str .nil))))]⟩
def h17 : List HTy := [.tl (.str (.bool (.str .nil))), .tl (.str (.bool (.str .nil)))]
def R17 : List RTpl := [⟨.b, [], [.tb]⟩]
def n17 : An := .sq (.nd) (.sq (.nd) (.sq (.sq (.nd) (.lp [0, 1] [] ⟨[(5, .i .i64)], []⟩ [.ti] [(1, ⟨[(4, .lb false)], []⟩), (2, ⟨[], []⟩)] [[], []] (.sq (.nd) (.sq (.sq (.mk [] [0, 0, 3, 7, 0, 0, 48, 112, 255]) (.nd)) (.nd))))) (.nd)))
theorem e17 (k : Nat) (y : Tup h17) : exec (P := Tryd.prog) D (lk rowsL) [] k (bodyOf Tryd.f17) n17 (fnE Tryd.f17 A17 [1000000] (inOf A17 (ofTup h17 y))) (fnSt [1000000] (inOf A17 (ofTup h17 y))) (leafR D (fnE Tryd.f17 A17 [1000000] (inOf A17 (ofTup h17 y))) Tryd.f17.results.toList (R17.map (·.h)) R17) = F17 k y.1 y.2 := by kernel_rfl
noncomputable def C17 (k : Nat) : Con Tryd.prog := ⟨17, Tryd.f17, Tryd.func17, by kernel_rfl, by kernel_rfl, A17, h17, [1000000], R17, fun y => F17 k y.1 y.2, fun y r h => con_ok good mixed (c := bodyOf Tryd.f17) Tryd.func17 (by kernel_rfl) n17 y ((e17 k y).trans h)⟩
noncomputable def L17_1_14 (k : Nat) (x1 : (List (ByteArray × Bool × ByteArray))) (x2 : (List (ByteArray × Bool × ByteArray))) (z15 : Int) : Option (Int ⊕ (Unit ⊕ Unit)) :=
cond (decide (z15 < (x1.length : Int))) (
(ix x1 z15).bind fun a16 =>
(ix x2 z15).bind fun a17 =>
cond (!((a16.1.toList == a17.1.toList) && ((a16.2.1 == a17.2.1) && ((a16.2.2.toList == a17.2.2.toList) && true)))) (
some (.inr (.inl ()))) (
some (.inl (IntKind.wrap .i64 (z15 + 1))))) (
some (.inr (.inr ())))
noncomputable def F17_1 (k : Nat) (x1 : (List (ByteArray × Bool × ByteArray))) (x2 : (List (ByteArray × Bool × ByteArray))) : Option Bool :=
cond ((x1.length : Int) != (x2.length : Int)) (
some false) (
(loopN (L17_1_14 k x1 x2) k 0).bind fun y18 => 
sel (fun y19 =>
some false) (fun y20 =>
some true) y18)
def A17_1 : CTpl := ⟨[.fz .u (.str (.bool (.str .nil))), .fz .u (.str (.bool (.str .nil)))], []⟩
def h17_1 : List HTy := [.tl (.str (.bool (.str .nil))), .tl (.str (.bool (.str .nil)))]
def R17_1 : List RTpl := [⟨.b, [], [.tb]⟩]
def n17_1 : An := .sq (.nd) (.sq (.nd) (.sq (.sq (.nd) (.lp [0, 1] [] ⟨[(5, .i .i64)], []⟩ [.ti] [(1, ⟨[(4, .lb false)], []⟩), (2, ⟨[], []⟩)] [[], []] (.sq (.nd) (.sq (.sq (.mk [] [0, 0, 3, 7, 0, 0, 48, 112, 255]) (.nd)) (.nd))))) (.nd)))
theorem e17_1 (k : Nat) (y : Tup h17_1) : exec (P := Tryd.prog) D (lk rowsL) [] k (bodyOf Tryd.f17) n17_1 (fnE Tryd.f17 A17_1 [] (inOf A17_1 (ofTup h17_1 y))) (fnSt [] (inOf A17_1 (ofTup h17_1 y))) (leafR D (fnE Tryd.f17 A17_1 [] (inOf A17_1 (ofTup h17_1 y))) Tryd.f17.results.toList (R17_1.map (·.h)) R17_1) = F17_1 k y.1 y.2 := by kernel_rfl
noncomputable def C17_1 (k : Nat) : Con Tryd.prog := ⟨17, Tryd.f17, Tryd.func17, by kernel_rfl, by kernel_rfl, A17_1, h17_1, [], R17_1, fun y => F17_1 k y.1 y.2, fun y r h => con_ok good mixed (c := bodyOf Tryd.f17) Tryd.func17 (by kernel_rfl) n17_1 y ((e17_1 k y).trans h)⟩
noncomputable def L3_18 (k : Nat) (x1 : (List (Int × Bool × ByteArray))) (z171 : (Int × (List (ByteArray × Int × Int)) × (List (ByteArray × Bool × ByteArray)) × (List (ByteArray × Bool × ByteArray)))) : Option ((Int × (List (ByteArray × Int × Int)) × (List (ByteArray × Bool × ByteArray)) × (List (ByteArray × Bool × ByteArray))) ⊕ (((List (ByteArray × Int × Int)) × (List (ByteArray × Bool × ByteArray))) ⊕ ((List (ByteArray × Int × Int)) × (List (ByteArray × Bool × ByteArray)) × (List (ByteArray × Bool × ByteArray))))) :=
((cond (decide (z171.1 < (x1.length : Int))) (
some (decide (z171.1 < 40))) (
some false) : Option Bool)).bind fun y172 => 
cond y172 (
(((ix x1 z171.1).bind fun a173 =>
(F11 k a173.1).bind fun y174 => 
(ix x1 z171.1).bind fun a175 =>
((cond (!a175.2.1) (
(ix x1 z171.1).bind fun a176 =>
(ix x1 z171.1).bind fun a177 =>
(F12 k a176.2.2 a177.1).bind fun y178 => 
some (y174, a175.2.1, y178)) (
some (y174, a175.2.1, ByteArray.empty)) : Option (ByteArray × Bool × ByteArray))).bind fun y179 => 
((cond y179.2.1 (
(F13 k y179.1 z171.2.1 z171.2.2.2).bind fun y180 => 
some (y180.1, y180.2.1, y180.2.2)) (
(F14 k y179.1 y179.2.2 z171.2.1 z171.2.2.2).bind fun y181 => 
some (y181.1, y181.2.1, y181.2.2)) : Option (Int × (List (ByteArray × Int × Int)) × (List (ByteArray × Bool × ByteArray))))).bind fun y182 => 
(F15_1 k y179.1 z171.2.2.1).bind fun y183 => 
((cond y183.2.2.2 (
cond (!((y182.1 == 0) == true)) (
some true) (
cond (y182.1 != 0) (
some (y182.1 != 12)) (
some false))) (
(F16_1 k z171.2.2.1).bind fun y184 => 
cond (!((y182.1 == 0) == (decide ((y184.length : Int) < 8)))) (
some true) (
cond (y182.1 != 0) (
some (y182.1 != 12)) (
some false))) : Option Bool)).bind fun y185 => 
cond y185 (
some (.inr (y182.2.1, y182.2.2))) (
cond (y182.1 == 0) (
grd (decide ((z171.2.2.1.length + [(y179.1, y179.2.1, y179.2.2)].length) * 40 ≤ 140737488355328)) <|
some (.inl (y182.2.1, (z171.2.2.1 ++ [(y179.1, y179.2.1, y179.2.2)]), y182.2.2))) (
some (.inl (y182.2.1, z171.2.2.1, y182.2.2)))) : Option (((List (ByteArray × Int × Int)) × (List (ByteArray × Bool × ByteArray)) × (List (ByteArray × Bool × ByteArray))) ⊕ ((List (ByteArray × Int × Int)) × (List (ByteArray × Bool × ByteArray)))))).bind fun y186 => 
sel (fun y187 =>
some (.inl ((IntKind.wrap .i64 (z171.1 + 1)), y187.1, y187.2.1, y187.2.2))) (fun y188 =>
some (.inr (.inl (y188.1, y188.2)))) y186) (
some (.inr (.inr (z171.2.1, z171.2.2.1, z171.2.2.2))))
noncomputable def F3 (k : Nat) (x1 : (List (Int × Bool × ByteArray))) : Option Bool :=
(F9 k).bind fun y2 => 
(((F10 k).bind fun y6 => 
cond (!y6) (
some true) (
some false) : Option Bool)).bind fun y7 => 
cond y7 (
some false) (
(loopN (L3_18 k x1) k (0, y2.1, ([] : List (ByteArray × Bool × ByteArray)), y2.2)).bind fun y189 => 
sel (fun y190 =>
some false) (fun y191 =>
(F18 k y191.1 y191.2.2).bind fun y192 => 
(F19 k y191.2.1).bind fun y193 => 
(F17_1 k y192 y193).bind fun y194 => 
some y194) y189)
def A3 : CTpl := ⟨[.fz .u (.int .i64 (.bool (.str .nil)))], []⟩
def h3 : List HTy := [.tl (.int .i64 (.bool (.str .nil)))]
def R3 : List RTpl := [⟨.b, [], [.tb]⟩]
def n3 : An := .sq (.nd) (.sq (.nd) (.sq (.jn [0, 3] [401000, 401001] [(0, ⟨[(16, .b)], []⟩)] [[.tb]] (.nd) (.nd)) (.sq (.nd) (.sq (.sq (.nd) (.lp [0, 3] [] ⟨[(4, .sl .n 300900), (5, .i .i64)], [(401000, .bx 73 [.sl .u 300901, .fz .u (.str (.int .u32 (.int .u32 .nil)))]), (300900, .ar 31 (.str (.bool (.str .nil)))), (300901, .ar 31 (.str (.bool (.str .nil))))]⟩ [.ti, .tl (.str (.int .u32 (.int .u32 .nil))), .tl (.str (.bool (.str .nil))), .tl (.str (.bool (.str .nil)))] [(1, ⟨[(2, .lb false)], [(401000, .bx 73 [.sl .u 300925, .fz .u (.str (.int .u32 (.int .u32 .nil)))]), (300925, .ar 31 (.str (.bool (.str .nil))))]⟩), (2, ⟨[(4, .sl .n 300935)], [(401000, .bx 73 [.sl .u 300936, .fz .u (.str (.int .u32 (.int .u32 .nil)))]), (300935, .ar 31 (.str (.bool (.str .nil)))), (300936, .ar 31 (.str (.bool (.str .nil))))]⟩)] [[.tl (.str (.int .u32 (.int .u32 .nil))), .tl (.str (.bool (.str .nil)))], [.tl (.str (.int .u32 (.int .u32 .nil))), .tl (.str (.bool (.str .nil))), .tl (.str (.bool (.str .nil)))]] (.sq (.jn [4, 5] [300900, 300901, 401000] [(0, ⟨[(24, .b)], []⟩)] [[.tb]] (.nd) (.nd)) (.jn [5] [] [(0, ⟨[(4, .sl .n 301250)], [(401000, .bx 73 [.sl .u 301251, .fz .u (.str (.int .u32 (.int .u32 .nil)))]), (301250, .ar 31 (.str (.bool (.str .nil)))), (301251, .ar 31 (.str (.bool (.str .nil))))]⟩), (1, ⟨[(2, .lb false)], [(401000, .bx 73 [.sl .u 301260, .fz .u (.str (.int .u32 (.int .u32 .nil)))]), (301260, .ar 31 (.str (.bool (.str .nil))))]⟩)] [[.tl (.str (.int .u32 (.int .u32 .nil))), .tl (.str (.bool (.str .nil))), .tl (.str (.bool (.str .nil)))], [.tl (.str (.int .u32 (.int .u32 .nil))), .tl (.str (.bool (.str .nil)))]] (.sq (.mk [] [0, 0, 3, 7, 15, 31, 0, 0, 192, 448, 960, 2047, 0, 8191]) (.jn [4, 6] [300900, 300901, 401000] [(0, ⟨[], [(6, .bx 31 [.s, .b, .s])]⟩)] [[.ts, .tb, .ts]] (.sq (.nd) (.sq (.mk [] [0, 0, 3, 7, 15, 0, 0, 96, 224, 480, 1023, 2047, 4095]) (.nd))) (.sq (.nd) (.jn [4, 6] [6, 300900] [(0, ⟨[(7, .i .i64)], [(401000, .bx 73 [.sl .u 301850, .fz .u (.str (.int .u32 (.int .u32 .nil)))]), (301850, .ar 31 (.str (.bool (.str .nil))))]⟩)] [[.ti, .tl (.str (.int .u32 (.int .u32 .nil))), .tl (.str (.bool (.str .nil)))]] (.nd) (.sq (.nd) (.sq (.jn [4, 6, 7] [6, 300900, 301850, 401000] [(0, ⟨[(90, .b)], []⟩)] [[.tb]] (.nd) (.nd)) (.nd))))))) (.nd))))) (.sq (.fr [(3, 300935), (4, 409800), (4, 410000)]) (.nd))))))
theorem e3 (k : Nat) (hm : Mo.m = false) (y : Tup h3) : exec (P := Tryd.prog) D (lk rowsL) [C9 k, C10 k hm, C11 k, C12 k, C13 k hm, C14 k hm, C15 k, C16 k, C15_1 k, C16_1 k, C18 k, C19 k, C17_1 k] k (bodyOf Tryd.f3) n3 (fnE Tryd.f3 A3 [] (inOf A3 (ofTup h3 y))) (fnSt [] (inOf A3 (ofTup h3 y))) (leafR D (fnE Tryd.f3 A3 [] (inOf A3 (ofTup h3 y))) Tryd.f3.results.toList (R3.map (·.h)) R3) = F3 k y := by kernel_rfl
noncomputable def C3 (k : Nat) (hm : Mo.m = false) : Con Tryd.prog := ⟨3, Tryd.f3, Tryd.func3, by kernel_rfl, by kernel_rfl, A3, h3, [], R3, fun y => F3 k y, fun y r h => con_ok good mixed (c := bodyOf Tryd.f3) Tryd.func3 (by kernel_rfl) n3 y ((e3 k hm y).trans h)⟩
noncomputable def F26 (k : Nat) (x1 : Int) (x2 : Int) (x3 : ByteArray) (x4 : ByteArray) (x5 : (List (ByteArray × Bool × ByteArray × Int))) (x6 : Int) (x7 : Bool) : Option ByteArray :=
cond (!x7) (
some x3) (
cond ((x2.tmod 5) == 0) (
(F24 k (IntKind.wrap .i64 (x2.tdiv 5)) 26).bind fun y2 => 
some (strOfNums [(IntKind.wrap .u8 (65 + (IntKind.wrap .u8 y2)))])) (
(F11 k x2).bind fun y3 => 
some y3))
def A26 : CTpl := ⟨[.ag [.i .i64, .i .i64, .s, .s, .fz .u (.str (.bool (.str (.int .u32 .nil)))), .i .u32, .b]], []⟩
def h26 : List HTy := [.ti, .ti, .ts, .ts, .tl (.str (.bool (.str (.int .u32 .nil)))), .ti, .tb]
def R26 : List RTpl := [⟨.s, [], [.ts]⟩]
def n26 : An := .nd
theorem e26 (k : Nat) (y : Tup h26) : exec (P := Tryd.prog) D (lk rowsL) [C24 k, C11 k] k (bodyOf Tryd.f26) n26 (fnE Tryd.f26 A26 [] (inOf A26 (ofTup h26 y))) (fnSt [] (inOf A26 (ofTup h26 y))) (leafR D (fnE Tryd.f26 A26 [] (inOf A26 (ofTup h26 y))) Tryd.f26.results.toList (R26.map (·.h)) R26) = F26 k y.1 y.2.1 y.2.2.1 y.2.2.2.1 y.2.2.2.2.1 y.2.2.2.2.2.1 y.2.2.2.2.2.2 := by kernel_rfl
noncomputable def C26 (k : Nat) : Con Tryd.prog := ⟨26, Tryd.f26, Tryd.func26, by kernel_rfl, by kernel_rfl, A26, h26, [], R26, fun y => F26 k y.1 y.2.1 y.2.2.1 y.2.2.2.1 y.2.2.2.2.1 y.2.2.2.2.2.1 y.2.2.2.2.2.2, fun y r h => con_ok good mixed (c := bodyOf Tryd.f26) Tryd.func26 (by kernel_rfl) n26 y ((e26 k y).trans h)⟩
noncomputable def F38 (k : Nat) (x1 : Int) (x2 : Int) : Option Bool :=
cond (decide (33 ≤ x1)) (
cond (decide (127 ≤ x1)) (
cond (!(decide (x1 ≤ 160))) (
cond (x1 == 65533) (
some (!(x2 == 1))) (
some true)) (
some false)) (
cond (x1 == 65533) (
some (!(x2 == 1))) (
some true))) (
some false)
def A38 : CTpl := ⟨[.i .i64, .i .i64], []⟩
def h38 : List HTy := [.ti, .ti]
def R38 : List RTpl := [⟨.b, [], [.tb]⟩]
def n38 : An := .nd
theorem e38 (k : Nat) (y : Tup h38) : exec (P := Tryd.prog) D (lk rowsL) [] k (bodyOf Tryd.f38) n38 (fnE Tryd.f38 A38 [] (inOf A38 (ofTup h38 y))) (fnSt [] (inOf A38 (ofTup h38 y))) (leafR D (fnE Tryd.f38 A38 [] (inOf A38 (ofTup h38 y))) Tryd.f38.results.toList (R38.map (·.h)) R38) = F38 k y.1 y.2 := by kernel_rfl
noncomputable def C38 (k : Nat) : Con Tryd.prog := ⟨38, Tryd.f38, Tryd.func38, by kernel_rfl, by kernel_rfl, A38, h38, [], R38, fun y => F38 k y.1 y.2, fun y r h => con_ok good mixed (c := bodyOf Tryd.f38) Tryd.func38 (by kernel_rfl) n38 y ((e38 k y).trans h)⟩
noncomputable def L20_8 (k : Nat) (y2 : ((List Int) × (List Int))) (z42 : Int) : Option (Int ⊕ (Unit ⊕ Unit)) :=
cond (decide (z42 < (y2.1.length : Int))) (
(ix y2.1 z42).bind fun a43 =>
(y2.1[z42.toNat]?).bind fun a44 =>
(ix y2.2 z42).bind fun a45 =>
(y2.2[z42.toNat]?).bind fun a46 =>
(F38 k a44 a46).bind fun y47 => 
cond (!y47) (
some (.inr (.inl ()))) (
some (.inl (IntKind.wrap .i64 (z42 + 1))))) (
some (.inr (.inr ())))
noncomputable def F20 (k : Nat) (x1 : ByteArray) : Option Bool :=
(F37 k x1).bind fun y2 => 
(loopN (L20_8 k y2) k 0).bind fun y48 => 
sel (fun y49 =>
some false) (fun y50 =>
cond (decide (1 ≤ (y2.1.length : Int))) (
some (decide ((y2.1.length : Int) ≤ 12))) (
some false)) y48
def A20 : CTpl := ⟨[.s], []⟩
def h20 : List HTy := [.ts]
def R20 : List RTpl := [⟨.b, [], [.tb]⟩]
def n20 : An := .sq (.nd) (.sq (.nd) (.sq (.sq (.nd) (.lp [3, 4] [400800, 400801] ⟨[(5, .i .i64)], []⟩ [.ti] [(1, ⟨[(2, .lb false)], []⟩), (2, ⟨[], []⟩)] [[], []] (.sq (.nd) (.sq (.sq (.mk [] [0, 0, 3, 7, 0, 0, 48, 112, 255, 511]) (.nd)) (.nd))))) (.nd)))
theorem e20 (k : Nat) (y : Tup h20) : exec (P := Tryd.prog) D (lk rowsL) [C37 k, C38 k] k (bodyOf Tryd.f20) n20 (fnE Tryd.f20 A20 [] (inOf A20 (ofTup h20 y))) (fnSt [] (inOf A20 (ofTup h20 y))) (leafR D (fnE Tryd.f20 A20 [] (inOf A20 (ofTup h20 y))) Tryd.f20.results.toList (R20.map (·.h)) R20) = F20 k y := by kernel_rfl
noncomputable def C20 (k : Nat) : Con Tryd.prog := ⟨20, Tryd.f20, Tryd.func20, by kernel_rfl, by kernel_rfl, A20, h20, [], R20, fun y => F20 k y, fun y r h => con_ok good mixed (c := bodyOf Tryd.f20) Tryd.func20 (by kernel_rfl) n20 y ((e20 k y).trans h)⟩
noncomputable def L19_1_10 (k : Nat) (x1 : (List (ByteArray × Bool × ByteArray))) (y2 : (List ByteArray)) (z31 : (Int × (List (ByteArray × Bool × ByteArray)))) : Option ((Int × (List (ByteArray × Bool × ByteArray))) ⊕ (List (ByteArray × Bool × ByteArray))) :=
cond (decide (z31.1 < (y2.length : Int))) (
(ix y2 z31.1).bind fun a32 =>
(y2[z31.1.toNat]?).bind fun a33 =>
(F15_1 k a33 x1).bind fun y34 => 
((cond y34.2.1 (
some (y34.1, y34.2.1, (⟨#[]⟩ : ByteArray))) (
some (y34.1, y34.2.1, y34.2.2.1)) : Option (ByteArray × Bool × ByteArray))).bind fun y35 => 
grd (decide ((z31.2.length + [(y35.1, y35.2.1, y35.2.2)].length) * 40 ≤ 140737488355328)) <|
some (.inl ((IntKind.wrap .i64 (z31.1 + 1)), (z31.2 ++ [(y35.1, y35.2.1, y35.2.2)])))) (
some (.inr z31.2))
noncomputable def F19_1 (k : Nat) (x1 : (List (ByteArray × Bool × ByteArray))) : Option (List (ByteArray × Bool × ByteArray)) :=
(F16_1 k x1).bind fun y2 => 
(loopN (L19_1_10 k x1 y2) k (0, ([] : List (ByteArray × Bool × ByteArray)))).bind fun y36 => 
some y36
def A19_1 : CTpl := ⟨[.sl .u 1000000], [(1000000, .ar 31 (.str (.bool (.str .nil))))]⟩
def h19_1 : List HTy := [.tl (.str (.bool (.str .nil)))]
def R19_1 : List RTpl := [⟨.sl .u 500000, [(500000, .ar 31 (.str (.bool (.str .nil))))], [.tl (.str (.bool (.str .nil)))]⟩]
def n19_1 : An := .sq (.nd) (.sq (.nd) (.sq (.nd) (.sq (.sq (.nd) (.lp [0, 3] [400900] ⟨[(4, .sl .n 300500), (5, .i .i64)], [(300500, .ar 31 (.str (.bool (.str .nil))))]⟩ [.ti, .tl (.str (.bool (.str .nil)))] [(2, ⟨[(4, .sl .n 300525)], [(300525, .ar 31 (.str (.bool (.str .nil))))]⟩)] [[.tl (.str (.bool (.str .nil)))]] (.sq (.nd) (.sq (.sq (.nd) (.jn [4, 5, 6] [300500] [(0, ⟨[], [(6, .bx 31 [.s, .b, .s])]⟩)] [[.ts, .tb, .ts]] (.nd) (.nd))) (.nd))))) (.nd))))
theorem e19_1 (k : Nat) (y : Tup h19_1) : exec (P := Tryd.prog) D (lk rowsL) [C16_1 k, C15_1 k] k (bodyOf Tryd.f19) n19_1 (fnE Tryd.f19 A19_1 [1000000] (inOf A19_1 (ofTup h19_1 y))) (fnSt [1000000] (inOf A19_1 (ofTup h19_1 y))) (leafR D (fnE Tryd.f19 A19_1 [1000000] (inOf A19_1 (ofTup h19_1 y))) Tryd.f19.results.toList (R19_1.map (·.h)) R19_1) = F19_1 k y := by kernel_rfl
noncomputable def C19_1 (k : Nat) : Con Tryd.prog := ⟨19, Tryd.f19, Tryd.func19, by kernel_rfl, by kernel_rfl, A19_1, h19_1, [1000000], R19_1, fun y => F19_1 k y, fun y r h => con_ok good mixed (c := bodyOf Tryd.f19) Tryd.func19 (by kernel_rfl) n19_1 y ((e19_1 k y).trans h)⟩
noncomputable def F42 (k : Nat) (x1 : ByteArray) (x2 : Bool) (x3 : ByteArray) (x4 : (List (ByteArray × Bool × ByteArray))) (x5 : (List (ByteArray × Int × Int))) : Option (Int × (List (ByteArray × Bool × ByteArray)) × (List (ByteArray × Int × Int))) :=
(F20 k x1).bind fun y3 => 
cond (!y3) (
some (10, x4, x5)) (
cond (decide (48 < (x3.size : Int))) (
some (11, x4, x5)) (
(F15 k x4 x1).bind fun y7 => 
((cond (!y7.2.2.2) (
some (decide (8 ≤ (x4.length : Int)))) (
some false) : Option Bool)).bind fun y8 => 
cond y8 (
some (12, x4, x5)) (
grd (decide ((([] : List (ByteArray × Bool × ByteArray)).length + x4.length) * 40 ≤ 140737488355328)) <|
grd (decide (((([] : List (ByteArray × Bool × ByteArray)) ++ x4).length + [(x1, x2, x3)].length) * 40 ≤ 140737488355328)) <|
(F19_1 k ((([] : List (ByteArray × Bool × ByteArray)) ++ x4) ++ [(x1, x2, x3)])).bind fun y10 => 
some (0, y10, x5))))
def A42 : CTpl := ⟨[.pt 1000000 0, .ag [.s, .b, .s]], [(1000000, .bx 64 [.fz .u (.str (.bool (.str .nil))), .fz .u (.str (.int .u32 (.int .u32 .nil)))])]⟩
def h42 : List HTy := [.ts, .tb, .ts, .tl (.str (.bool (.str .nil))), .tl (.str (.int .u32 (.int .u32 .nil)))]
def R42 : List RTpl := [⟨.i .i64, [(1000000, .bx 64 [.fz .u (.str (.bool (.str .nil))), .fz .u (.str (.int .u32 (.int .u32 .nil)))])], [.ti, .tl (.str (.bool (.str .nil))), .tl (.str (.int .u32 (.int .u32 .nil)))]⟩]
def n42 : An := .sq (.nd) (.sq (.nd) (.sq (.nd) (.sq (.sq (.mk [] [0, 1, 3, 7, 0, 16, 63, 127, 255, 255, 0, 1535, 4095]) (.jn [0, 3] [3, 1000000] [(0, ⟨[(34, .b)], []⟩)] [[.tb]] (.nd) (.nd))) (.sq (.mk [] [0, 0, 2, 6, 14, 30, 0, 64, 254, 510, 1023, 2047, 4095]) (.nd)))))
theorem e42 (k : Nat) (y : Tup h42) : exec (P := Tryd.prog) D (lk rowsL) [C20 k, C15 k, C19_1 k] k (bodyOf Tryd.f42) n42 (fnE Tryd.f42 A42 [] (inOf A42 (ofTup h42 y))) (fnSt [] (inOf A42 (ofTup h42 y))) (leafR D (fnE Tryd.f42 A42 [] (inOf A42 (ofTup h42 y))) Tryd.f42.results.toList (R42.map (·.h)) R42) = F42 k y.1 y.2.1 y.2.2.1 y.2.2.2.1 y.2.2.2.2 := by kernel_rfl
noncomputable def C42 (k : Nat) : Con Tryd.prog := ⟨42, Tryd.f42, Tryd.func42, by kernel_rfl, by kernel_rfl, A42, h42, [], R42, fun y => F42 k y.1 y.2.1 y.2.2.1 y.2.2.2.1 y.2.2.2.2, fun y r h => con_ok good mixed (c := bodyOf Tryd.f42) Tryd.func42 (by kernel_rfl) n42 y ((e42 k y).trans h)⟩
noncomputable def F27 (k : Nat) (x1 : ByteArray) (x2 : (List (ByteArray × Bool × ByteArray))) (x3 : (List (ByteArray × Int × Int))) : Option (Int × (List (ByteArray × Bool × ByteArray)) × (List (ByteArray × Int × Int))) :=
(F42 k x1 true ByteArray.empty x2 x3).bind fun y1 => 
some (y1.1, y1.2.1, y1.2.2)
def A27 : CTpl := ⟨[.pt 1000000 0, .s], [(1000000, .bx 64 [.fz .u (.str (.bool (.str .nil))), .fz .u (.str (.int .u32 (.int .u32 .nil)))])]⟩
def h27 : List HTy := [.ts, .tl (.str (.bool (.str .nil))), .tl (.str (.int .u32 (.int .u32 .nil)))]
def R27 : List RTpl := [⟨.i .i64, [(1000000, .bx 64 [.fz .u (.str (.bool (.str .nil))), .fz .u (.str (.int .u32 (.int .u32 .nil)))])], [.ti, .tl (.str (.bool (.str .nil))), .tl (.str (.int .u32 (.int .u32 .nil)))]⟩]
def n27 : An := .nd
theorem e27 (k : Nat) (y : Tup h27) : exec (P := Tryd.prog) D (lk rowsL) [C42 k] k (bodyOf Tryd.f27) n27 (fnE Tryd.f27 A27 [] (inOf A27 (ofTup h27 y))) (fnSt [] (inOf A27 (ofTup h27 y))) (leafR D (fnE Tryd.f27 A27 [] (inOf A27 (ofTup h27 y))) Tryd.f27.results.toList (R27.map (·.h)) R27) = F27 k y.1 y.2.1 y.2.2 := by kernel_rfl
noncomputable def C27 (k : Nat) : Con Tryd.prog := ⟨27, Tryd.f27, Tryd.func27, by kernel_rfl, by kernel_rfl, A27, h27, [], R27, fun y => F27 k y.1 y.2.1 y.2.2, fun y r h => con_ok good mixed (c := bodyOf Tryd.f27) Tryd.func27 (by kernel_rfl) n27 y ((e27 k y).trans h)⟩
noncomputable def L28_8 (k : Nat) (x2 : Int) (x5 : (List (ByteArray × Bool × ByteArray × Int))) (x7 : Bool) (z39 : (Int × (List (ByteArray × Bool × ByteArray × Int)))) : Option ((Int × (List (ByteArray × Bool × ByteArray × Int))) ⊕ (List (ByteArray × Bool × ByteArray × Int))) :=
((cond (decide (z39.1 < (x5.length : Int))) (
some (decide (z39.1 < 12))) (
some false) : Option Bool)).bind fun y40 => 
cond y40 (
(ix x5 z39.1).bind fun a41 =>
(F33 k a41.1 30).bind fun y42 => 
(F33 k a41.2.2.1 30).bind fun y43 => 
((cond x7 (
(F24 k (IntKind.wrap .i64 (x2 + (IntKind.wrap .i64 (7 * z39.1)))) 26).bind fun y44 => 
some ((strOfNums [(IntKind.wrap .u8 (97 + (IntKind.wrap .u8 y44))), (IntKind.wrap .u8 (IntKind.wrap .i64 (48 + (z39.1.tmod 4))))]), a41.2.1, y43, a41.2.2.2)) (
some (y42, a41.2.1, y43, a41.2.2.2)) : Option (ByteArray × Bool × ByteArray × Int))).bind fun y45 => 
grd (decide ((z39.2.length + [(y45.1, y45.2.1, y45.2.2.1, y45.2.2.2)].length) * 48 ≤ 140737488355328)) <|
some (.inl ((IntKind.wrap .i64 (z39.1 + 1)), (z39.2 ++ [(y45.1, y45.2.1, y45.2.2.1, y45.2.2.2)])))) (
some (.inr z39.2))
noncomputable def F28 (k : Nat) (x1 : Int) (x2 : Int) (x3 : ByteArray) (x4 : ByteArray) (x5 : (List (ByteArray × Bool × ByteArray × Int))) (x6 : Int) (x7 : Bool) : Option (List (ByteArray × Bool × ByteArray × Int)) :=
(loopN (L28_8 k x2 x5 x7) k (0, ([] : List (ByteArray × Bool × ByteArray × Int)))).bind fun y46 => 
some y46
def A28 : CTpl := ⟨[.ag [.i .i64, .i .i64, .s, .s, .fz .u (.str (.bool (.str (.int .u32 .nil)))), .i .u32, .b]], []⟩
def h28 : List HTy := [.ti, .ti, .ts, .ts, .tl (.str (.bool (.str (.int .u32 .nil)))), .ti, .tb]
def R28 : List RTpl := [⟨.sl .u 500000, [(500000, .ar 52 (.str (.bool (.str (.int .u32 .nil)))))], [.tl (.str (.bool (.str (.int .u32 .nil))))]⟩]
def n28 : An := .sq (.nd) (.sq (.nd) (.sq (.sq (.nd) (.lp [1] [1] ⟨[(3, .sl .n 300400), (4, .i .i64)], [(300400, .ar 52 (.str (.bool (.str (.int .u32 .nil)))))]⟩ [.ti, .tl (.str (.bool (.str (.int .u32 .nil))))] [(2, ⟨[(3, .sl .n 300425)], [(300425, .ar 52 (.str (.bool (.str (.int .u32 .nil)))))]⟩)] [[.tl (.str (.bool (.str (.int .u32 .nil))))]] (.sq (.jn [3, 4] [300400] [(0, ⟨[(14, .b)], []⟩)] [[.tb]] (.nd) (.nd)) (.sq (.sq (.nd) (.sq (.mk [] [0, 1, 3, 0, 8, 31, 31, 127, 255, 511]) (.jn [3, 4, 5] [300400] [(0, ⟨[], [(5, .bx 52 [.s, .b, .s, .i .u32])]⟩)] [[.ts, .tb, .ts, .ti]] (.nd) (.nd)))) (.nd))))) (.nd)))
theorem e28 (k : Nat) (y : Tup h28) : exec (P := Tryd.prog) D (lk rowsL) [C33 k, C24 k] k (bodyOf Tryd.f28) n28 (fnE Tryd.f28 A28 [] (inOf A28 (ofTup h28 y))) (fnSt [] (inOf A28 (ofTup h28 y))) (leafR D (fnE Tryd.f28 A28 [] (inOf A28 (ofTup h28 y))) Tryd.f28.results.toList (R28.map (·.h)) R28) = F28 k y.1 y.2.1 y.2.2.1 y.2.2.2.1 y.2.2.2.2.1 y.2.2.2.2.2.1 y.2.2.2.2.2.2 := by kernel_rfl
noncomputable def C28 (k : Nat) : Con Tryd.prog := ⟨28, Tryd.f28, Tryd.func28, by kernel_rfl, by kernel_rfl, A28, h28, [], R28, fun y => F28 k y.1 y.2.1 y.2.2.1 y.2.2.2.1 y.2.2.2.2.1 y.2.2.2.2.2.1 y.2.2.2.2.2.2, fun y r h => con_ok good mixed (c := bodyOf Tryd.f28) Tryd.func28 (by kernel_rfl) n28 y ((e28 k y).trans h)⟩
noncomputable def F39 (k : Nat) (x1 : (List (ByteArray × Int × Int))) : Option (List (ByteArray × Int × Int)) :=
nilT x1.isEmpty (
some ([] : List (ByteArray × Int × Int))) (
grd (decide ((([] : List (ByteArray × Int × Int)).length + x1.length) * 24 ≤ 140737488355328)) <|
some (([] : List (ByteArray × Int × Int)) ++ x1))
def A39 : CTpl := ⟨[.fz .u (.str (.int .u32 (.int .u32 .nil)))], []⟩
def h39 : List HTy := [.tl (.str (.int .u32 (.int .u32 .nil)))]
def R39 : List RTpl := [⟨.sl .u 500000, [(500000, .ar 50 (.str (.int .u32 (.int .u32 .nil))))], [.tl (.str (.int .u32 (.int .u32 .nil)))]⟩]
def n39 : An := .nd
theorem e39 (k : Nat) (y : Tup h39) : exec (P := Tryd.prog) D (lk rowsL) [] k (bodyOf Tryd.f39) n39 (fnE Tryd.f39 A39 [] (inOf A39 (ofTup h39 y))) (fnSt [] (inOf A39 (ofTup h39 y))) (leafR D (fnE Tryd.f39 A39 [] (inOf A39 (ofTup h39 y))) Tryd.f39.results.toList (R39.map (·.h)) R39) = F39 k y := by kernel_rfl
noncomputable def C39 (k : Nat) : Con Tryd.prog := ⟨39, Tryd.f39, Tryd.func39, by kernel_rfl, by kernel_rfl, A39, h39, [], R39, fun y => F39 k y, fun y r h => con_ok good mixed (c := bodyOf Tryd.f39) Tryd.func39 (by kernel_rfl) n39 y ((e39 k y).trans h)⟩
noncomputable def F41 (k : Nat) (x1 : ByteArray) (x2 : Int) (x3 : Int) (x4 : ByteArray) (x5 : Bool) (x6 : ByteArray) (x7 : Int) : Option Bool :=
some (x1.toList == x4.toList)
def A41 : CTpl := ⟨[.ag [.s, .i .u32, .i .u32], .pt 1000000 0], [(1000000, .bx 52 [.s, .b, .s, .i .u32])]⟩
def h41 : List HTy := [.ts, .ti, .ti, .ts, .tb, .ts, .ti]
def R41 : List RTpl := [⟨.b, [], [.tb]⟩]
def n41 : An := .nd
theorem e41 (k : Nat) (y : Tup h41) : exec (P := Tryd.prog) D (lk rowsL) [] k (bodyOf Tryd.f41) n41 (fnE Tryd.f41 A41 [1000000] (inOf A41 (ofTup h41 y))) (fnSt [1000000] (inOf A41 (ofTup h41 y))) (leafR D (fnE Tryd.f41 A41 [1000000] (inOf A41 (ofTup h41 y))) Tryd.f41.results.toList (R41.map (·.h)) R41) = F41 k y.1 y.2.1 y.2.2.1 y.2.2.2.1 y.2.2.2.2.1 y.2.2.2.2.2.1 y.2.2.2.2.2.2 := by kernel_rfl
noncomputable def C41 (k : Nat) : Con Tryd.prog := ⟨41, Tryd.f41, Tryd.func41, by kernel_rfl, by kernel_rfl, A41, h41, [1000000], R41, fun y => F41 k y.1 y.2.1 y.2.2.1 y.2.2.2.1 y.2.2.2.2.1 y.2.2.2.2.2.1 y.2.2.2.2.2.2, fun y r h => con_ok good mixed (c := bodyOf Tryd.f41) Tryd.func41 (by kernel_rfl) n41 y ((e41 k y).trans h)⟩
noncomputable def L40_6 (k : Nat) (x1 : (List (ByteArray × Int × Int))) (x2 : ByteArray) (x3 : Bool) (x4 : ByteArray) (x5 : Int) (z19 : Int) : Option (Int ⊕ (Int ⊕ Unit)) :=
cond (decide (z19 < (x1.length : Int))) (
(ix x1 z19).bind fun a20 =>
(F41 k a20.1 a20.2.1 a20.2.2 x2 x3 x4 x5).bind fun y21 => 
cond y21 (
some (.inr (.inl z19))) (
some (.inl (IntKind.wrap .i64 (z19 + 1))))) (
some (.inr (.inr ())))
noncomputable def F40 (k : Nat) (x1 : (List (ByteArray × Int × Int))) (x2 : ByteArray) (x3 : Bool) (x4 : ByteArray) (x5 : Int) : Option Int :=
(loopN (L40_6 k x1 x2 x3 x4 x5) k 0).bind fun y22 => 
sel (fun y23 =>
some y23) (fun y24 =>
some (-1)) y22
def A40 : CTpl := ⟨[.fz .u (.str (.int .u32 (.int .u32 .nil))), .fn 41 [.pt 1000000 0]], [(1000000, .bx 52 [.s, .b, .s, .i .u32])]⟩
def h40 : List HTy := [.tl (.str (.int .u32 (.int .u32 .nil))), .ts, .tb, .ts, .ti]
def R40 : List RTpl := [⟨.i .i64, [], [.ti]⟩]
def n40 : An := .sq (.nd) (.sq (.sq (.nd) (.lp [0, 1, 7] [] ⟨[(8, .i .i64)], []⟩ [.ti] [(1, ⟨[(4, .i .i64)], []⟩), (2, ⟨[], []⟩)] [[.ti], []] (.nd))) (.nd))
theorem e40 (k : Nat) (y : Tup h40) : exec (P := Tryd.prog) D (lk rowsL) [C41 k] k (bodyOf Tryd.f40) n40 (fnE Tryd.f40 A40 [1000000] (inOf A40 (ofTup h40 y))) (fnSt [1000000] (inOf A40 (ofTup h40 y))) (leafR D (fnE Tryd.f40 A40 [1000000] (inOf A40 (ofTup h40 y))) Tryd.f40.results.toList (R40.map (·.h)) R40) = F40 k y.1 y.2.1 y.2.2.1 y.2.2.2.1 y.2.2.2.2 := by kernel_rfl
noncomputable def C40 (k : Nat) : Con Tryd.prog := ⟨40, Tryd.f40, Tryd.func40, by kernel_rfl, by kernel_rfl, A40, h40, [1000000], R40, fun y => F40 k y.1 y.2.1 y.2.2.1 y.2.2.2.1 y.2.2.2.2, fun y r h => con_ok good mixed (c := bodyOf Tryd.f40) Tryd.func40 (by kernel_rfl) n40 y ((e40 k y).trans h)⟩
noncomputable def L40_1_6 (k : Nat) (x1 : (List (ByteArray × Int × Int))) (x2 : ByteArray) (x3 : Bool) (x4 : ByteArray) (x5 : Int) (z26 : Int) : Option (Int ⊕ (Int ⊕ Unit)) :=
cond (decide (z26 < (x1.length : Int))) (
(ix x1 z26).bind fun a27 =>
(x1[z26.toNat]?).bind fun a28 =>
(F41 k a28.1 a28.2.1 a28.2.2 x2 x3 x4 x5).bind fun y29 => 
cond y29 (
some (.inr (.inl z26))) (
some (.inl (IntKind.wrap .i64 (z26 + 1))))) (
some (.inr (.inr ())))
noncomputable def F40_1 (k : Nat) (x1 : (List (ByteArray × Int × Int))) (x2 : ByteArray) (x3 : Bool) (x4 : ByteArray) (x5 : Int) : Option Int :=
(loopN (L40_1_6 k x1 x2 x3 x4 x5) k 0).bind fun y30 => 
sel (fun y31 =>
some y31) (fun y32 =>
some (-1)) y30
def A40_1 : CTpl := ⟨[.sl .u 1000000, .fn 41 [.pt 1000001 0]], [(1000000, .ar 50 (.str (.int .u32 (.int .u32 .nil)))), (1000001, .bx 52 [.s, .b, .s, .i .u32])]⟩
def h40_1 : List HTy := [.tl (.str (.int .u32 (.int .u32 .nil))), .ts, .tb, .ts, .ti]
def R40_1 : List RTpl := [⟨.i .i64, [], [.ti]⟩]
def n40_1 : An := .sq (.nd) (.sq (.sq (.nd) (.lp [0, 1, 7] [] ⟨[(8, .i .i64)], []⟩ [.ti] [(1, ⟨[(4, .i .i64)], []⟩), (2, ⟨[], []⟩)] [[.ti], []] (.nd))) (.nd))
theorem e40_1 (k : Nat) (y : Tup h40_1) : exec (P := Tryd.prog) D (lk rowsL) [C41 k] k (bodyOf Tryd.f40) n40_1 (fnE Tryd.f40 A40_1 [1000000, 1000001] (inOf A40_1 (ofTup h40_1 y))) (fnSt [1000000, 1000001] (inOf A40_1 (ofTup h40_1 y))) (leafR D (fnE Tryd.f40 A40_1 [1000000, 1000001] (inOf A40_1 (ofTup h40_1 y))) Tryd.f40.results.toList (R40_1.map (·.h)) R40_1) = F40_1 k y.1 y.2.1 y.2.2.1 y.2.2.2.1 y.2.2.2.2 := by kernel_rfl
noncomputable def C40_1 (k : Nat) : Con Tryd.prog := ⟨40, Tryd.f40, Tryd.func40, by kernel_rfl, by kernel_rfl, A40_1, h40_1, [1000000, 1000001], R40_1, fun y => F40_1 k y.1 y.2.1 y.2.2.1 y.2.2.2.1 y.2.2.2.2, fun y r h => con_ok good mixed (c := bodyOf Tryd.f40) Tryd.func40 (by kernel_rfl) n40_1 y ((e40_1 k y).trans h)⟩
noncomputable def L21_16 (k : Nat) (x1 : Int) (x3 : (List (ByteArray × Bool × ByteArray × Int))) (z52 : (Int × (List (ByteArray × Int × Int)))) : Option ((Int × (List (ByteArray × Int × Int))) ⊕ (List (ByteArray × Int × Int))) :=
cond (decide (z52.1 < (x3.length : Int))) (
(((ix x3 z52.1).bind fun a53 =>
(x3[z52.1.toNat]?).bind fun a54 =>
(F40_1 k z52.2 a54.1 a54.2.1 a54.2.2.1 a54.2.2.2).bind fun y55 => 
cond (decide (y55 < 0)) (
grd (decide ((z52.2.length + [(a54.1, a54.2.2.2, x1)].length) * 24 ≤ 140737488355328)) <|
some (z52.2 ++ [(a54.1, a54.2.2.2, x1)])) (
(ix z52.2 y55).bind fun a56 =>
(z52.2[y55.toNat]?).bind fun a57 =>
cond (a57.2.1 != a54.2.2.2) (
(ix z52.2 y55).bind fun a58 =>
((z52.2[y55.toNat]?).bind fun a59 => some (a59.1, 4294967295, a59.2.2)).bind fun a60 =>
some (z52.2.set y55.toNat a60)) (
some z52.2)) : Option (List (ByteArray × Int × Int)))).bind fun y61 => 
some (.inl ((IntKind.wrap .i64 (z52.1 + 1)), y61))) (
some (.inr z52.2))
noncomputable def F21 (k : Nat) (x1 : Int) (x2 : (List (ByteArray × Int × Int))) (x3 : (List (ByteArray × Bool × ByteArray × Int))) (x4 : (List (ByteArray × Bool × ByteArray))) : Option (Int × (List (ByteArray × Int × Int))) :=
(F39 k x2).bind fun y2 => 
(loopN (L21_16 k x1 x3) k (0, y2)).bind fun y62 => 
cond (decide (48 < (y62.length : Int))) (
some (12, x2)) (
some (0, y62))
def A21 : CTpl := ⟨[.pt 1000000 0, .sl .u 1000001, .i .u32], [(1000000, .bx 73 [.sl .u 1000002, .fz .u (.str (.int .u32 (.int .u32 .nil)))]), (1000001, .ar 52 (.str (.bool (.str (.int .u32 .nil))))), (1000002, .ar 31 (.str (.bool (.str .nil))))]⟩
def h21 : List HTy := [.ti, .tl (.str (.int .u32 (.int .u32 .nil))), .tl (.str (.bool (.str (.int .u32 .nil)))), .tl (.str (.bool (.str .nil)))]
def R21 : List RTpl := [⟨.i .i64, [(1000000, .bx 73 [.sl .u 1000002, .fz .u (.str (.int .u32 (.int .u32 .nil)))])], [.ti, .tl (.str (.int .u32 (.int .u32 .nil)))]⟩]
def n21 : An := .sq (.nd) (.sq (.nd) (.sq (.nd) (.sq (.sq (.nd) (.lp [0, 2, 18, 19] [1000000] ⟨[(7, .sl .u 300800), (20, .i .i64)], [(300800, .ar 50 (.str (.int .u32 (.int .u32 .nil))))]⟩ [.ti, .tl (.str (.int .u32 (.int .u32 .nil)))] [(2, ⟨[(7, .sl .u 300825)], [(300825, .ar 50 (.str (.int .u32 (.int .u32 .nil))))]⟩)] [[.tl (.str (.int .u32 (.int .u32 .nil)))]] (.sq (.nd) (.sq (.nd) (.jn [20] [] [(0, ⟨[(7, .sl .u 301150)], [(301150, .ar 50 (.str (.int .u32 (.int .u32 .nil))))]⟩)] [[.tl (.str (.int .u32 (.int .u32 .nil)))]] (.sq (.nd) (.sq (.nd) (.sq (.nd) (.sq (.nd) (.sq (.mk [] [0, 0, 3, 7, 15, 0, 32, 127, 255]) (.nd)))))) (.nd)))))) (.nd))))
theorem e21 (k : Nat) (y : Tup h21) : exec (P := Tryd.prog) D (lk rowsL) [C39 k, C40_1 k] k (bodyOf Tryd.f21) n21 (fnE Tryd.f21 A21 [1000001, 1000002] (inOf A21 (ofTup h21 y))) (fnSt [1000001, 1000002] (inOf A21 (ofTup h21 y))) (leafR D (fnE Tryd.f21 A21 [1000001, 1000002] (inOf A21 (ofTup h21 y))) Tryd.f21.results.toList (R21.map (·.h)) R21) = F21 k y.1 y.2.1 y.2.2.1 y.2.2.2 := by kernel_rfl
noncomputable def C21 (k : Nat) : Con Tryd.prog := ⟨21, Tryd.f21, Tryd.func21, by kernel_rfl, by kernel_rfl, A21, h21, [1000001, 1000002], R21, fun y => F21 k y.1 y.2.1 y.2.2.1 y.2.2.2, fun y r h => con_ok good mixed (c := bodyOf Tryd.f21) Tryd.func21 (by kernel_rfl) n21 y ((e21 k y).trans h)⟩
noncomputable def L29_23 (k : Nat) (x4 : (List (ByteArray × Bool × ByteArray × Int))) (z376 : (Int × (List (ByteArray × Int × Int)))) (z377 : (Bool × Int × (List (ByteArray × Int × Int)))) : Option ((Bool × Int × (List (ByteArray × Int × Int))) ⊕ (Bool × (List (ByteArray × Int × Int)))) :=
cond (decide (z377.2.1 < (z377.2.2.length : Int))) (
(((ix z377.2.2 z377.2.1).bind fun a378 =>
(z377.2.2[z377.2.1.toNat]?).bind fun a379 =>
(ix x4 z376.1).bind fun a380 =>
(x4[z376.1.toNat]?).bind fun a381 =>
cond (!(a379.1.toList == a381.1.toList)) (
some (z377.1, z377.2.2)) (
(ix z377.2.2 z377.2.1).bind fun a382 =>
(z377.2.2[z377.2.1.toNat]?).bind fun a383 =>
(ix x4 z376.1).bind fun a384 =>
(x4[z376.1.toNat]?).bind fun a385 =>
cond (a383.2.1 != a385.2.2.2) (
(ix z377.2.2 z377.2.1).bind fun a386 =>
((z377.2.2[z377.2.1.toNat]?).bind fun a387 => some (a387.1, 4294967295, a387.2.2)).bind fun a388 =>
some (true, (z377.2.2.set z377.2.1.toNat a388))) (
some (true, z377.2.2))) : Option (Bool × (List (ByteArray × Int × Int))))).bind fun y389 => 
some (.inl (y389.1, (IntKind.wrap .i64 (z377.2.1 + 1)), y389.2))) (
some (.inr (z377.1, z377.2.2)))
noncomputable def L29_8 (k : Nat) (x1 : Int) (x4 : (List (ByteArray × Bool × ByteArray × Int))) (z376 : (Int × (List (ByteArray × Int × Int)))) : Option ((Int × (List (ByteArray × Int × Int))) ⊕ (List (ByteArray × Int × Int))) :=
cond (decide (z376.1 < (x4.length : Int))) (
(((loopN (L29_23 k x4 z376) k (false, 0, z376.2)).bind fun y390 => 
cond (!y390.1) (
(ix x4 z376.1).bind fun a391 =>
(x4[z376.1.toNat]?).bind fun a392 =>
(ix x4 z376.1).bind fun a393 =>
(x4[z376.1.toNat]?).bind fun a394 =>
grd (decide ((y390.2.length + [(a392.1, a394.2.2.2, x1)].length) * 24 ≤ 140737488355328)) <|
some (y390.2 ++ [(a392.1, a394.2.2.2, x1)])) (
some y390.2) : Option (List (ByteArray × Int × Int)))).bind fun y395 => 
some (.inl ((IntKind.wrap .i64 (z376.1 + 1)), y395))) (
some (.inr z376.2))
noncomputable def F29 (k : Nat) (x1 : Int) (x2 : (List (ByteArray × Bool × ByteArray))) (x3 : (List (ByteArray × Int × Int))) (x4 : (List (ByteArray × Bool × ByteArray × Int))) : Option (Int × (List (ByteArray × Bool × ByteArray)) × (List (ByteArray × Int × Int))) :=
grd (decide ((([] : List (ByteArray × Int × Int)).length + x3.length) * 24 ≤ 140737488355328)) <|
(loopN (L29_8 k x1 x4) k (0, (([] : List (ByteArray × Int × Int)) ++ x3))).bind fun y396 => 
cond (decide (48 < (y396.length : Int))) (
some (12, x2, x3)) (
some (0, x2, y396))
def A29 : CTpl := ⟨[.pt 1000000 0, .sl .u 1000001, .i .u32], [(1000000, .bx 64 [.fz .u (.str (.bool (.str .nil))), .fz .u (.str (.int .u32 (.int .u32 .nil)))]), (1000001, .ar 52 (.str (.bool (.str (.int .u32 .nil)))))]⟩
def h29 : List HTy := [.ti, .tl (.str (.bool (.str .nil))), .tl (.str (.int .u32 (.int .u32 .nil))), .tl (.str (.bool (.str (.int .u32 .nil))))]
def R29 : List RTpl := [⟨.i .i64, [(1000000, .bx 64 [.fz .u (.str (.bool (.str .nil))), .fz .u (.str (.int .u32 (.int .u32 .nil)))])], [.ti, .tl (.str (.bool (.str .nil))), .tl (.str (.int .u32 (.int .u32 .nil)))]⟩]
def n29 : An := .sq (.nd) (.sq (.nd) (.sq (.sq (.nd) (.lp [0, 1, 2] [1000000] ⟨[(7, .sl .n 300400), (8, .i .i64)], [(300400, .ar 50 (.str (.int .u32 (.int .u32 .nil))))]⟩ [.ti, .tl (.str (.int .u32 (.int .u32 .nil)))] [(2, ⟨[(7, .sl .n 300425)], [(300425, .ar 50 (.str (.int .u32 (.int .u32 .nil))))]⟩)] [[.tl (.str (.int .u32 (.int .u32 .nil)))]] (.sq (.nd) (.jn [8] [] [(0, ⟨[(7, .sl .n 300750)], [(300750, .ar 50 (.str (.int .u32 (.int .u32 .nil))))]⟩)] [[.tl (.str (.int .u32 (.int .u32 .nil)))]] (.sq (.nd) (.sq (.sq (.nd) (.lp [7] [] ⟨[(9, .b), (10, .i .i64)], [(300400, .ar 50 (.str (.int .u32 (.int .u32 .nil))))]⟩ [.tb, .ti, .tl (.str (.int .u32 (.int .u32 .nil)))] [(4, ⟨[(9, .b)], [(300400, .ar 50 (.str (.int .u32 (.int .u32 .nil))))]⟩)] [[.tb, .tl (.str (.int .u32 (.int .u32 .nil)))]] (.sq (.nd) (.jn [10] [] [(0, ⟨[(9, .b)], [(300400, .ar 50 (.str (.int .u32 (.int .u32 .nil))))]⟩)] [[.tb, .tl (.str (.int .u32 (.int .u32 .nil)))]] (.sq (.sq (.mk [] [0, 0, 3, 7, 15, 0, 0, 96, 224, 480, 1023]) (.nd)) (.sq (.nd) (.sq (.mk [] [0, 0, 3, 7, 15, 0, 0, 96, 224, 480, 1023]) (.nd)))) (.nd))))) (.sq (.nd) (.sq (.mk [] [0, 0, 0, 6, 14, 30, 0, 0, 192, 448, 960, 0, 4094, 8190, 16383, 32767]) (.nd))))) (.nd))))) (.nd)))
theorem e29 (k : Nat) (y : Tup h29) : exec (P := Tryd.prog) D (lk rowsL) [] k (bodyOf Tryd.f29) n29 (fnE Tryd.f29 A29 [1000001] (inOf A29 (ofTup h29 y))) (fnSt [1000001] (inOf A29 (ofTup h29 y))) (leafR D (fnE Tryd.f29 A29 [1000001] (inOf A29 (ofTup h29 y))) Tryd.f29.results.toList (R29.map (·.h)) R29) = F29 k y.1 y.2.1 y.2.2.1 y.2.2.2 := by kernel_rfl
noncomputable def C29 (k : Nat) : Con Tryd.prog := ⟨29, Tryd.f29, Tryd.func29, by kernel_rfl, by kernel_rfl, A29, h29, [1000001], R29, fun y => F29 k y.1 y.2.1 y.2.2.1 y.2.2.2, fun y r h => con_ok good mixed (c := bodyOf Tryd.f29) Tryd.func29 (by kernel_rfl) n29 y ((e29 k y).trans h)⟩
noncomputable def F30 (k : Nat) (x1 : ByteArray) (x2 : (List (ByteArray × Int × Int))) (x3 : (List (ByteArray × Bool × ByteArray))) : Option (ByteArray × Bool × ByteArray × Bool) :=
(F43 k x1 x3).bind fun y1 => 
some (y1.1, y1.2.1, y1.2.2.1, y1.2.2.2)
def A30 : CTpl := ⟨[.pt 1000000 0, .s], [(1000000, .bx 73 [.sl .u 1000001, .fz .u (.str (.int .u32 (.int .u32 .nil)))]), (1000001, .ar 31 (.str (.bool (.str .nil))))]⟩
def h30 : List HTy := [.ts, .tl (.str (.int .u32 (.int .u32 .nil))), .tl (.str (.bool (.str .nil)))]
def R30 : List RTpl := [⟨.tp [.ag [.s, .b, .s], .b], [], [.ts, .tb, .ts, .tb]⟩]
def n30 : An := .nd
theorem e30 (k : Nat) (y : Tup h30) : exec (P := Tryd.prog) D (lk rowsL) [C43 k] k (bodyOf Tryd.f30) n30 (fnE Tryd.f30 A30 [1000000, 1000001] (inOf A30 (ofTup h30 y))) (fnSt [1000000, 1000001] (inOf A30 (ofTup h30 y))) (leafR D (fnE Tryd.f30 A30 [1000000, 1000001] (inOf A30 (ofTup h30 y))) Tryd.f30.results.toList (R30.map (·.h)) R30) = F30 k y.1 y.2.1 y.2.2 := by kernel_rfl
noncomputable def C30 (k : Nat) : Con Tryd.prog := ⟨30, Tryd.f30, Tryd.func30, by kernel_rfl, by kernel_rfl, A30, h30, [1000000, 1000001], R30, fun y => F30 k y.1 y.2.1 y.2.2, fun y r h => con_ok good mixed (c := bodyOf Tryd.f30) Tryd.func30 (by kernel_rfl) n30 y ((e30 k y).trans h)⟩
noncomputable def F31 (k : Nat) (x1 : ByteArray) (x2 : ByteArray) (x3 : (List (ByteArray × Bool × ByteArray))) (x4 : (List (ByteArray × Int × Int))) : Option (Int × (List (ByteArray × Bool × ByteArray)) × (List (ByteArray × Int × Int))) :=
(F42 k x1 false x2 x3 x4).bind fun y1 => 
some (y1.1, y1.2.1, y1.2.2)
def A31 : CTpl := ⟨[.pt 1000000 0, .s, .s], [(1000000, .bx 64 [.fz .u (.str (.bool (.str .nil))), .fz .u (.str (.int .u32 (.int .u32 .nil)))])]⟩
def h31 : List HTy := [.ts, .ts, .tl (.str (.bool (.str .nil))), .tl (.str (.int .u32 (.int .u32 .nil)))]
def R31 : List RTpl := [⟨.i .i64, [(1000000, .bx 64 [.fz .u (.str (.bool (.str .nil))), .fz .u (.str (.int .u32 (.int .u32 .nil)))])], [.ti, .tl (.str (.bool (.str .nil))), .tl (.str (.int .u32 (.int .u32 .nil)))]⟩]
def n31 : An := .nd
theorem e31 (k : Nat) (y : Tup h31) : exec (P := Tryd.prog) D (lk rowsL) [C42 k] k (bodyOf Tryd.f31) n31 (fnE Tryd.f31 A31 [] (inOf A31 (ofTup h31 y))) (fnSt [] (inOf A31 (ofTup h31 y))) (leafR D (fnE Tryd.f31 A31 [] (inOf A31 (ofTup h31 y))) Tryd.f31.results.toList (R31.map (·.h)) R31) = F31 k y.1 y.2.1 y.2.2.1 y.2.2.2 := by kernel_rfl
noncomputable def C31 (k : Nat) : Con Tryd.prog := ⟨31, Tryd.f31, Tryd.func31, by kernel_rfl, by kernel_rfl, A31, h31, [], R31, fun y => F31 k y.1 y.2.1 y.2.2.1 y.2.2.2, fun y r h => con_ok good mixed (c := bodyOf Tryd.f31) Tryd.func31 (by kernel_rfl) n31 y ((e31 k y).trans h)⟩
noncomputable def L17_2_14 (k : Nat) (x1 : (List (ByteArray × Bool × ByteArray))) (x2 : (List (ByteArray × Bool × ByteArray))) (z20 : Int) : Option (Int ⊕ (Unit ⊕ Unit)) :=
cond (decide (z20 < (x2.length : Int))) (
(ix x2 z20).bind fun a21 =>
(x2[z20.toNat]?).bind fun a22 =>
(ix x1 z20).bind fun a23 =>
cond (!((a22.1.toList == a23.1.toList) && ((a22.2.1 == a23.2.1) && ((a22.2.2.toList == a23.2.2.toList) && true)))) (
some (.inr (.inl ()))) (
some (.inl (IntKind.wrap .i64 (z20 + 1))))) (
some (.inr (.inr ())))
noncomputable def F17_2 (k : Nat) (x1 : (List (ByteArray × Bool × ByteArray))) (x2 : (List (ByteArray × Bool × ByteArray))) : Option Bool :=
cond ((x2.length : Int) != (x1.length : Int)) (
some false) (
(loopN (L17_2_14 k x1 x2) k 0).bind fun y24 => 
sel (fun y25 =>
some false) (fun y26 =>
some true) y24)
def A17_2 : CTpl := ⟨[.sl .u 1000000, .fz .u (.str (.bool (.str .nil)))], [(1000000, .ar 31 (.str (.bool (.str .nil))))]⟩
def h17_2 : List HTy := [.tl (.str (.bool (.str .nil))), .tl (.str (.bool (.str .nil)))]
def R17_2 : List RTpl := [⟨.b, [], [.tb]⟩]
def n17_2 : An := .sq (.nd) (.sq (.nd) (.sq (.sq (.nd) (.lp [0, 1] [] ⟨[(5, .i .i64)], []⟩ [.ti] [(1, ⟨[(4, .lb false)], []⟩), (2, ⟨[], []⟩)] [[], []] (.sq (.nd) (.sq (.sq (.mk [] [0, 0, 3, 7, 0, 0, 48, 112, 255]) (.nd)) (.nd))))) (.nd)))
theorem e17_2 (k : Nat) (y : Tup h17_2) : exec (P := Tryd.prog) D (lk rowsL) [] k (bodyOf Tryd.f17) n17_2 (fnE Tryd.f17 A17_2 [1000000] (inOf A17_2 (ofTup h17_2 y))) (fnSt [1000000] (inOf A17_2 (ofTup h17_2 y))) (leafR D (fnE Tryd.f17 A17_2 [1000000] (inOf A17_2 (ofTup h17_2 y))) Tryd.f17.results.toList (R17_2.map (·.h)) R17_2) = F17_2 k y.1 y.2 := by kernel_rfl
noncomputable def C17_2 (k : Nat) : Con Tryd.prog := ⟨17, Tryd.f17, Tryd.func17, by kernel_rfl, by kernel_rfl, A17_2, h17_2, [1000000], R17_2, fun y => F17_2 k y.1 y.2, fun y r h => con_ok good mixed (c := bodyOf Tryd.f17) Tryd.func17 (by kernel_rfl) n17_2 y ((e17_2 k y).trans h)⟩
noncomputable def F22 (k : Nat) (x1 : (List (ByteArray × Int × Int))) (x2 : (List (ByteArray × Bool × ByteArray))) : Option (List (ByteArray × Int × Int)) :=
(F39 k x1).bind fun y1 => 
some y1
def A22 : CTpl := ⟨[.pt 1000000 0], [(1000000, .bx 73 [.sl .u 1000001, .fz .u (.str (.int .u32 (.int .u32 .nil)))]), (1000001, .ar 31 (.str (.bool (.str .nil))))]⟩
def h22 : List HTy := [.tl (.str (.int .u32 (.int .u32 .nil))), .tl (.str (.bool (.str .nil)))]
def R22 : List RTpl := [⟨.sl .u 500000, [(500000, .ar 50 (.str (.int .u32 (.int .u32 .nil))))], [.tl (.str (.int .u32 (.int .u32 .nil)))]⟩]
def n22 : An := .nd
theorem e22 (k : Nat) (y : Tup h22) : exec (P := Tryd.prog) D (lk rowsL) [C39 k] k (bodyOf Tryd.f22) n22 (fnE Tryd.f22 A22 [1000000, 1000001] (inOf A22 (ofTup h22 y))) (fnSt [1000000, 1000001] (inOf A22 (ofTup h22 y))) (leafR D (fnE Tryd.f22 A22 [1000000, 1000001] (inOf A22 (ofTup h22 y))) Tryd.f22.results.toList (R22.map (·.h)) R22) = F22 k y.1 y.2 := by kernel_rfl
noncomputable def C22 (k : Nat) : Con Tryd.prog := ⟨22, Tryd.f22, Tryd.func22, by kernel_rfl, by kernel_rfl, A22, h22, [1000000, 1000001], R22, fun y => F22 k y.1 y.2, fun y r h => con_ok good mixed (c := bodyOf Tryd.f22) Tryd.func22 (by kernel_rfl) n22 y ((e22 k y).trans h)⟩
noncomputable def L23_14 (k : Nat) (x1 : (List (ByteArray × Int × Int))) (x2 : (List (ByteArray × Int × Int))) (z20 : Int) : Option (Int ⊕ (Unit ⊕ Unit)) :=
cond (decide (z20 < (x2.length : Int))) (
(ix x2 z20).bind fun a21 =>
(x2[z20.toNat]?).bind fun a22 =>
(ix x1 z20).bind fun a23 =>
cond (!((a22.1.toList == a23.1.toList) && ((a22.2.1 == a23.2.1) && ((a22.2.2 == a23.2.2) && true)))) (
some (.inr (.inl ()))) (
some (.inl (IntKind.wrap .i64 (z20 + 1))))) (
some (.inr (.inr ())))
noncomputable def F23 (k : Nat) (x1 : (List (ByteArray × Int × Int))) (x2 : (List (ByteArray × Int × Int))) : Option Bool :=
cond ((x2.length : Int) != (x1.length : Int)) (
some false) (
(loopN (L23_14 k x1 x2) k 0).bind fun y24 => 
sel (fun y25 =>
some false) (fun y26 =>
some true) y24)
def A23 : CTpl := ⟨[.sl .u 1000000, .fz .u (.str (.int .u32 (.int .u32 .nil)))], [(1000000, .ar 50 (.str (.int .u32 (.int .u32 .nil))))]⟩
def h23 : List HTy := [.tl (.str (.int .u32 (.int .u32 .nil))), .tl (.str (.int .u32 (.int .u32 .nil)))]
def R23 : List RTpl := [⟨.b, [], [.tb]⟩]
def n23 : An := .sq (.nd) (.sq (.nd) (.sq (.sq (.nd) (.lp [0, 1] [] ⟨[(5, .i .i64)], []⟩ [.ti] [(1, ⟨[(4, .lb false)], []⟩), (2, ⟨[], []⟩)] [[], []] (.sq (.nd) (.sq (.sq (.mk [] [0, 0, 3, 7, 0, 0, 48, 112, 255]) (.nd)) (.nd))))) (.nd)))
theorem e23 (k : Nat) (y : Tup h23) : exec (P := Tryd.prog) D (lk rowsL) [] k (bodyOf Tryd.f23) n23 (fnE Tryd.f23 A23 [1000000] (inOf A23 (ofTup h23 y))) (fnSt [1000000] (inOf A23 (ofTup h23 y))) (leafR D (fnE Tryd.f23 A23 [1000000] (inOf A23 (ofTup h23 y))) Tryd.f23.results.toList (R23.map (·.h)) R23) = F23 k y.1 y.2 := by kernel_rfl
noncomputable def C23 (k : Nat) : Con Tryd.prog := ⟨23, Tryd.f23, Tryd.func23, by kernel_rfl, by kernel_rfl, A23, h23, [1000000], R23, fun y => F23 k y.1 y.2, fun y r h => con_ok good mixed (c := bodyOf Tryd.f23) Tryd.func23 (by kernel_rfl) n23 y ((e23 k y).trans h)⟩
noncomputable def L7_18 (k : Nat) (x1 : (List (Int × Int × ByteArray × ByteArray × (List (ByteArray × Bool × ByteArray × Int)) × Int × Bool))) (z256 : (Int × (List (ByteArray × Int × Int)) × (List (ByteArray × Bool × ByteArray)) × (List (ByteArray × Int × Int)) × (List (ByteArray × Bool × ByteArray)))) : Option ((Int × (List (ByteArray × Int × Int)) × (List (ByteArray × Bool × ByteArray)) × (List (ByteArray × Int × Int)) × (List (ByteArray × Bool × ByteArray))) ⊕ (((List (ByteArray × Int × Int)) × (List (ByteArray × Bool × ByteArray)) × (List (ByteArray × Int × Int)) × (List (ByteArray × Bool × ByteArray))) ⊕ ((List (ByteArray × Int × Int)) × (List (ByteArray × Bool × ByteArray)) × (List (ByteArray × Int × Int)) × (List (ByteArray × Bool × ByteArray))))) :=
((cond (decide (z256.1 < (x1.length : Int))) (
some (decide (z256.1 < 60))) (
some false) : Option Bool)).bind fun y257 => 
cond y257 (
(ix x1 z256.1).bind fun a258 =>
(((F24 k a258.1 9).bind fun y259 => 
((cond (y259 == 4) (
some (y259 == 4)) (
some (y259 == 5)) : Option Bool)).bind fun y260 => 
cond y260 (
(F26 k a258.1 a258.2.1 a258.2.2.1 a258.2.2.2.1 a258.2.2.2.2.1 a258.2.2.2.2.2.1 a258.2.2.2.2.2.2).bind fun y261 => 
(F13 k y261 z256.2.1 z256.2.2.2.2).bind fun y262 => 
(F26 k a258.1 a258.2.1 a258.2.2.1 a258.2.2.2.1 a258.2.2.2.2.1 a258.2.2.2.2.2.1 a258.2.2.2.2.2.2).bind fun y263 => 
(F27 k y263 z256.2.2.1 z256.2.2.2.1).bind fun y264 => 
some (.inl (y262.1, y264.1, y262.2.1, y264.2.1, y264.2.2, y262.2.2))) (
((cond (y259 == 6) (
some (y259 == 6)) (
some (y259 == 7)) : Option Bool)).bind fun y265 => 
cond y265 (
(F28 k a258.1 a258.2.1 a258.2.2.1 a258.2.2.2.1 a258.2.2.2.2.1 a258.2.2.2.2.2.1 a258.2.2.2.2.2.2).bind fun y266 => 
(F21 k a258.2.2.2.2.2.1 z256.2.1 y266 z256.2.2.2.2).bind fun y267 => 
(F28 k a258.1 a258.2.1 a258.2.2.1 a258.2.2.2.1 a258.2.2.2.2.1 a258.2.2.2.2.2.1 a258.2.2.2.2.2.2).bind fun y268 => 
(F29 k a258.2.2.2.2.2.1 z256.2.2.1 z256.2.2.2.1 y268).bind fun y269 => 
some (.inl (y267.1, y269.1, y267.2, y269.2.1, y269.2.2, z256.2.2.2.2))) (
cond (y259 == 8) (
(F26 k a258.1 a258.2.1 a258.2.2.1 a258.2.2.2.1 a258.2.2.2.2.1 a258.2.2.2.2.2.1 a258.2.2.2.2.2.2).bind fun y270 => 
(F30 k y270 z256.2.1 z256.2.2.2.2).bind fun y271 => 
(F26 k a258.1 a258.2.1 a258.2.2.1 a258.2.2.2.1 a258.2.2.2.2.1 a258.2.2.2.2.2.1 a258.2.2.2.2.2.2).bind fun y272 => 
(F15 k z256.2.2.1 y272).bind fun y273 => 
((cond (!((y271.1.toList == y273.1.toList) && ((y271.2.1 == y273.2.1) && ((y271.2.2.1.toList == y273.2.2.1.toList) && true)))) (
some true) (
some (!(y271.2.2.2 == y273.2.2.2))) : Option Bool)).bind fun y274 => 
cond y274 (
some (.inr (z256.2.1, z256.2.2.1, z256.2.2.2.1, z256.2.2.2.2))) (
some (.inl (0, 0, z256.2.1, z256.2.2.1, z256.2.2.2.1, z256.2.2.2.2)))) (
(F26 k a258.1 a258.2.1 a258.2.2.1 a258.2.2.2.1 a258.2.2.2.2.1 a258.2.2.2.2.2.1 a258.2.2.2.2.2.2).bind fun y275 => 
(F14 k y275 a258.2.2.2.1 z256.2.1 z256.2.2.2.2).bind fun y276 => 
(F26 k a258.1 a258.2.1 a258.2.2.1 a258.2.2.2.1 a258.2.2.2.2.1 a258.2.2.2.2.2.1 a258.2.2.2.2.2.2).bind fun y277 => 
(F31 k y277 a258.2.2.2.1 z256.2.2.1 z256.2.2.2.1).bind fun y278 => 
some (.inl (y276.1, y278.1, y276.2.1, y278.2.1, y278.2.2, y276.2.2))))) : Option ((Int × Int × (List (ByteArray × Int × Int)) × (List (ByteArray × Bool × ByteArray)) × (List (ByteArray × Int × Int)) × (List (ByteArray × Bool × ByteArray))) ⊕ ((List (ByteArray × Int × Int)) × (List (ByteArray × Bool × ByteArray)) × (List (ByteArray × Int × Int)) × (List (ByteArray × Bool × ByteArray)))))).bind fun y279 => 
sel (fun y280 =>
((cond (y280.1 != y280.2.1) (
some true) (
(F18 k y280.2.2.1 y280.2.2.2.2.2).bind fun y282 => 
(F17_2 k y280.2.2.2.1 y282).bind fun y283 => 
cond (!y283) (
some true) (
(F22 k y280.2.2.1 y280.2.2.2.2.2).bind fun y284 => 
(F23 k y280.2.2.2.2.1 y284).bind fun y285 => 
some (!y285))) : Option Bool)).bind fun y286 => 
cond y286 (
some (.inr (.inl (y280.2.2.1, y280.2.2.2.1, y280.2.2.2.2.1, y280.2.2.2.2.2)))) (
some (.inl ((IntKind.wrap .i64 (z256.1 + 1)), y280.2.2.1, y280.2.2.2.1, y280.2.2.2.2.1, y280.2.2.2.2.2)))) (fun y281 =>
some (.inr (.inl (y281.1, y281.2.1, y281.2.2.1, y281.2.2.2)))) y279) (
some (.inr (.inr (z256.2.1, z256.2.2.1, z256.2.2.2.1, z256.2.2.2.2))))
noncomputable def F7 (k : Nat) (x1 : (List (Int × Int × ByteArray × ByteArray × (List (ByteArray × Bool × ByteArray × Int)) × Int × Bool))) : Option Bool :=
(F9 k).bind fun y2 => 
(((F10 k).bind fun y6 => 
cond (!y6) (
some true) (
some false) : Option Bool)).bind fun y7 => 
cond y7 (
some false) (
(loopN (L7_18 k x1) k (0, y2.1, ([] : List (ByteArray × Bool × ByteArray)), ([] : List (ByteArray × Int × Int)), y2.2)).bind fun y287 => 
sel (fun y288 =>
some false) (fun y289 =>
some true) y287)
def A7 : CTpl := ⟨[.fz .u (.int .i64 (.int .i64 (.str (.str (.sl (.str (.bool (.str (.int .u32 .nil)))) (.int .u32 (.bool .nil)))))))], []⟩
def h7 : List HTy := [.tl (.int .i64 (.int .i64 (.str (.str (.sl (.str (.bool (.str (.int .u32 .nil)))) (.int .u32 (.bool .nil)))))))]
def R7 : List RTpl := [⟨.b, [], [.tb]⟩]
def n7 : An := .sq (.nd) (.sq (.nd) (.sq (.jn [0, 3] [401300, 401301] [(0, ⟨[(19, .b)], []⟩)] [[.tb]] (.nd) (.nd)) (.sq (.nd) (.sq (.sq (.nd) (.lp [0, 3, 4] [] ⟨[(5, .i .i64)], [(401300, .bx 73 [.sl .u 300900, .fz .u (.str (.int .u32 (.int .u32 .nil)))]), (21, .bx 64 [.fz .u (.str (.bool (.str .nil))), .fz .u (.str (.int .u32 (.int .u32 .nil)))]), (300900, .ar 31 (.str (.bool (.str .nil))))]⟩ [.ti, .tl (.str (.int .u32 (.int .u32 .nil))), .tl (.str (.bool (.str .nil))), .tl (.str (.int .u32 (.int .u32 .nil))), .tl (.str (.bool (.str .nil)))] [(1, ⟨[(2, .lb false)], [(401300, .bx 73 [.sl .u 300925, .fz .u (.str (.int .u32 (.int .u32 .nil)))]), (21, .bx 64 [.fz .u (.str (.bool (.str .nil))), .fz .u (.str (.int .u32 (.int .u32 .nil)))]), (300925, .ar 31 (.str (.bool (.str .nil))))]⟩), (2, ⟨[], [(401300, .bx 73 [.sl .u 300935, .fz .u (.str (.int .u32 (.int .u32 .nil)))]), (21, .bx 64 [.fz .u (.str (.bool (.str .nil))), .fz .u (.str (.int .u32 (.int .u32 .nil)))]), (300935, .ar 31 (.str (.bool (.str .nil))))]⟩)] [[.tl (.str (.int .u32 (.int .u32 .nil))), .tl (.str (.bool (.str .nil))), .tl (.str (.int .u32 (.int .u32 .nil))), .tl (.str (.bool (.str .nil)))], [.tl (.str (.int .u32 (.int .u32 .nil))), .tl (.str (.bool (.str .nil))), .tl (.str (.int .u32 (.int .u32 .nil))), .tl (.str (.bool (.str .nil)))]] (.sq (.jn [5] [21, 300900, 401300] [(0, ⟨[(29, .b)], []⟩)] [[.tb]] (.nd) (.nd)) (.sq (.sq (.nd) (.sq (.nd) (.jn [5] [] [(0, ⟨[(7, .i .i64), (8, .i .i64)], [(401300, .bx 73 [.sl .u 301550, .fz .u (.str (.int .u32 (.int .u32 .nil)))]), (21, .bx 64 [.fz .u (.str (.bool (.str .nil))), .fz .u (.str (.int .u32 (.int .u32 .nil)))]), (301550, .ar 31 (.str (.bool (.str .nil))))]⟩), (1, ⟨[(2, .lb false)], [(401300, .bx 73 [.sl .u 300900, .fz .u (.str (.int .u32 (.int .u32 .nil)))]), (21, .bx 64 [.fz .u (.str (.bool (.str .nil))), .fz .u (.str (.int .u32 (.int .u32 .nil)))]), (300900, .ar 31 (.str (.bool (.str .nil))))]⟩)] [[.ti, .ti, .tl (.str (.int .u32 (.int .u32 .nil))), .tl (.str (.bool (.str .nil))), .tl (.str (.int .u32 (.int .u32 .nil))), .tl (.str (.bool (.str .nil)))], [.tl (.str (.int .u32 (.int .u32 .nil))), .tl (.str (.bool (.str .nil))), .tl (.str (.int .u32 (.int .u32 .nil))), .tl (.str (.bool (.str .nil)))]] (.sq (.nd) (.jn [6, 7, 8, 38] [6, 21, 300900, 401300] [(0, ⟨[(51, .b)], []⟩)] [[.tb]] (.nd) (.sq (.mk [] [0, 0, 2, 7, 0, 0, 47, 127, 255, 511]) (.jn [6, 7, 8, 38] [6, 21, 300900, 401300] [(0, ⟨[(62, .b)], []⟩)] [[.tb]] (.nd) (.sq (.mk [] [0, 0, 2, 0, 8, 31, 0, 0, 191, 0, 512, 2047, 4095, 8191]) (.sq (.nd) (.sq (.sq (.nd) (.sq (.mk [] [0, 1, 3, 7, 0, 16, 63, 127, 255, 255, 0, 1535, 4095]) (.jn [7, 8] [21, 300900, 401300] [(0, ⟨[(103, .b)], []⟩)] [[.tb]] (.nd) (.nd)))) (.mk [] [0, 0, 2, 0, 8, 31, 0, 0, 191, 0, 512, 2047, 4095, 8191])))))))) (.jn [5] [21, 301550, 401300] [(0, ⟨[(126, .b)], []⟩)] [[.tb]] (.mk [] [0, 0, 3, 7, 15, 31, 15, 79, 207, 463, 1023, 2047, 4095, 8191, 16383, 32767, 16383, 81919, 212991, 475135, 1048575, 2097151, 4194303]) (.nd))))) (.nd))))) (.nd)))))
theorem e7 (k : Nat) (hm : Mo.m = false) (y : Tup h7) : exec (P := Tryd.prog) D (lk rowsL) [C9 k, C10 k hm, C24 k, C26 k, C13 k hm, C27 k, C28 k, C21 k, C29 k, C30 k, C15 k, C14 k hm, C31 k, C18 k, C17_2 k, C22 k, C23 k] k (bodyOf Tryd.f7) n7 (fnE Tryd.f7 A7 [] (inOf A7 (ofTup h7 y))) (fnSt [] (inOf A7 (ofTup h7 y))) (leafR D (fnE Tryd.f7 A7 [] (inOf A7 (ofTup h7 y))) Tryd.f7.results.toList (R7.map (·.h)) R7) = F7 k y := by kernel_rfl
noncomputable def C7 (k : Nat) (hm : Mo.m = false) : Con Tryd.prog := ⟨7, Tryd.f7, Tryd.func7, by kernel_rfl, by kernel_rfl, A7, h7, [], R7, fun y => F7 k y, fun y r h => con_ok good mixed (c := bodyOf Tryd.f7) Tryd.func7 (by kernel_rfl) n7 y ((e7 k hm y).trans h)⟩
end Go.Proofs.YtnpgfcedmdnemaaDoor.N

/- What the functions compute, natively, and that they do. Printed by a program (wip/xg). -/
import Derived.Test.YtobfoiomjfdjjaaDoorMc4
import Derived.Test.YtobfoiomjfdjjaaDoorProg
import Derived.Test.YtobfoiomjfdjjaaDoorShelf
import Derived.Test.YtobfoiomjfdjjaaDoorBld
namespace Go.Proofs.YtobfoiomjfdjjaaDoor.N
open Go Go.RowKit Go.Proofs.YtobfoiomjfdjjaaDoor.Mc Go.Proofs
set_option maxRecDepth 100000
set_option maxHeartbeats 0
set_option linter.unusedVariables false
noncomputable abbrev D := decOf Tryd.prog
theorem good : Go.Proofs.YtobfoiomjfdjjaaDoor.Mc.Good Tryd.prog D := good_of _
theorem mixed : Tryd.prog.follows .mixedOrders = true := by kernel_rfl
def rowsL : List (Nat × Row) := [(31, (.str .nil)), (37, (.str (.bool (.str (.int .u32 .nil))))), (57, (.str (.bool (.str (.int .u32 .nil))))), (100, (.int .i32 .nil))]
abbrev q0q : Row := .str (.bool (.str (.int .u32 .nil)))
abbrev q1q : Row := .str (.bool (.str .nil))
abbrev q2q : Row := .str (.int .u32 (.int .u32 .nil))
abbrev t3t : Type := List (ByteArray × (ByteArray × Bool × ByteArray × Int))
abbrev t4t : Type := List (ByteArray × Bool × ByteArray)
abbrev t5t : Type := List (ByteArray × Int × Int)
abbrev t6t : Type := List (ByteArray × Bool × ByteArray × Int)
abbrev t7t : Type := Bool × Int × Int × Int × Bool × Bool × Int × t4t × Int × Bool × Int × Int × t3t × t4t × t5t
abbrev t8t : Type := Bool × Int × Int × Int × Bool × Bool × Int × t4t × Int × Bool × Int × Int × Int × t3t × t4t × t5t × t4t × t5t
abbrev t9t : Type := Bool × Int × Int × Int × Bool × Bool × Int × t4t × Int × Bool × Int × t3t
abbrev t10t : Type := Int × Int × Int × Bool × Bool × Int × t4t × Int × Bool × Int
variable [Mo]
noncomputable abbrev EX (f : Func) (A : CTpl) (h : List HTy) (kp : List Nat) (R : List RTpl) (n : An) (Γ : List (Con Tryd.prog)) (k : Nat) (y : Tup h) : Option (AltT (R.map (·.h))) :=
  exec (P := Tryd.prog) D (lk rowsL) Γ k (bodyOf f) n (fnE f A kp (inOf A (ofTup h y))) (fnSt kp (inOf A (ofTup h y))) (leafR D (fnE f A kp (inOf A (ofTup h y))) f.results.toList (R.map (·.h)) R)
noncomputable def CK {k : Nat} (i : FuncId) {f : Func} (hf : Tryd.prog.funcs[i]? = some f) {A : CTpl} {h : List HTy} {kp : List Nat} {R : List RTpl} {n : An} {Γ : List (Con Tryd.prog)} {F : Tup h → Option (AltT (R.map (·.h)))} (e : ∀ y, EX f A h kp R n Γ k y = F y) (h1 : (f.name == "runtime.NumGoroutine") = false := by kernel_rfl) (h2 : f.body.isSome = true := by kernel_rfl) (h3 : f.body = some (bodyOf f) := by kernel_rfl) : Con Tryd.prog :=
  ⟨i, f, hf, h1, h2, A, h, kp, R, F, fun y _ hr => con_ok good mixed (c := bodyOf f) hf h3 n y ((e y).trans hr)⟩
noncomputable def F11 (k : Nat) (x1 : Int) (x2 : Int) : Option Int :=
grd (x2 != 0) <|
((cond (decide ((x1.tmod x2) < 0)) (
some (IntKind.wrap .i64 ((x1.tmod x2) + x2))) (
some (x1.tmod x2)) : Option Int)).bind fun y1 => 
some y1
def A11 : CTpl := ⟨[.i .i64, .i .i64], []⟩
def h11 : List HTy := [.ti, .ti]
def R11 : List RTpl := [⟨.i .i64, [], [.ti]⟩]
def n11 : An := .sq (.nd) (.sq (.nd) (.jn [] [] [(0, ⟨[(0, .i .i64)], []⟩)] [[.ti]] (.nd) (.nd)))
theorem e11 (k : Nat) (y : Tup h11) : EX Tryd.f11 A11 h11 [] R11 n11 [] k y = F11 k y.1 y.2 := by kernel_rfl
noncomputable def C11 (k : Nat) : Con Tryd.prog := CK 11 Tryd.func11 (e11 k)
noncomputable def F5 (k : Nat) (x1 : Int) (x2 : Int) (x3 : Int) : Option (Int × Int × Int) :=
(F11 k x1 33).bind fun y1 => 
(F11 k x2 4).bind fun y2 => 
(F11 k x3 4).bind fun y3 => 
some ((IntKind.wrap .i64 (32 + y1)), (IntKind.wrap .i64 (3 + y2)), (IntKind.wrap .i64 (4 + y3)))
def A5 : CTpl := ⟨[.ag [.i .i64, .i .i64, .i .i64]], []⟩
def h5 : List HTy := [.ti, .ti, .ti]
def R5 : List RTpl := [⟨.ag [.i .i64, .i .i64, .i .i64], [], [.ti, .ti, .ti]⟩]
def n5 : An := .sq (.nd) (.sq (.mk [] [0, 1, 3, 7, 0, 16, 55, 119, 0, 256, 887, 1911, 4095, 8191]) (.nd))
theorem e5 (k : Nat) (y : Tup h5) : EX Tryd.f5 A5 h5 [] R5 n5 [C11 k] k y = F5 k y.1 y.2.1 y.2.2 := by kernel_rfl
noncomputable def C5 (k : Nat) : Con Tryd.prog := CK 5 Tryd.func5 (e5 k)
noncomputable def F15 (k : Nat) (x1 : Int) (x2 : Int) (x3 : Int) : Option Bool :=
cond (decide (32 ≤ x1)) (
cond (decide (x1 ≤ 128)) (
cond (decide (3 ≤ x2)) (
cond (decide (x2 ≤ 10)) (
cond (decide (4 ≤ x3)) (
some (decide (x3 ≤ 12))) (
some false)) (
some false)) (
some false)) (
some false)) (
some false)
def A15 : CTpl := ⟨[.ag [.i .i64, .i .i64, .i .i64]], []⟩
def h15 : List HTy := [.ti, .ti, .ti]
def R15 : List RTpl := [⟨.b, [], [.tb]⟩]
def n15 : An := .nd
theorem e15 (k : Nat) (y : Tup h15) : EX Tryd.f15 A15 h15 [] R15 n15 [] k y = F15 k y.1 y.2.1 y.2.2 := by kernel_rfl
noncomputable def C15 (k : Nat) : Con Tryd.prog := CK 15 Tryd.func15 (e15 k)
noncomputable def F16 (k : Nat) : Option t3t :=
some ([] : List (ByteArray × (ByteArray × Bool × ByteArray × Int)))
def A16 : CTpl := ⟨[], []⟩
def h16 : List HTy := []
def R16 : List RTpl := [⟨.pt 500000 0, [(500000, .bx 59 [.mp 500001]), (500001, .mp ⟨.s, true, q0q⟩)], [.tm ⟨.s, true, q0q⟩]⟩]
def n16 : An := .nd
theorem e16 (k : Nat) (y : Tup h16) : EX Tryd.f16 A16 h16 [] R16 n16 [] k y = F16 k := by kernel_rfl
noncomputable def C16 (k : Nat) : Con Tryd.prog := CK 16 Tryd.func16 (e16 k)
noncomputable def F6 (k : Nat) (x1 : Int) (x2 : Int) (x3 : Int) : Option (Unit ⊕ (Int × Int × Int × Bool × Bool × Int × t4t × Int × Bool × Int × t3t)) :=
(F15 k x1 x2 x3).bind fun y3 => 
cond (!y3) (
some (.inl ())) (
(F16 k).bind fun y4 => 
some (.inr (x1, x2, x3, false, false, 0, ([] : List (ByteArray × Bool × ByteArray)), 0, false, 0, y4)))
def A6 : CTpl := ⟨[.ag [.i .i64, .i .i64, .i .i64]], []⟩
def h6 : List HTy := [.ti, .ti, .ti]
def R6 : List RTpl := [⟨.c (.pointer none), [], []⟩, ⟨.pt 500000 0, [(500000, .bx 53 [.i .i64, .i .i64, .i .i64, .b, .pt 500001 0, .b, .mp 500002, .i .i64, .fz .u q1q, .i .u32, .b, .i .i64]), (500001, .bx 59 [.mp 500003]), (500002, .bx 3000000 []), (500003, .mp ⟨.s, true, q0q⟩)], [.ti, .ti, .ti, .tb, .tb, .ti, .tl q1q, .ti, .tb, .ti, .tm ⟨.s, true, q0q⟩]⟩]
def n6 : An := .sq (.nd) (.sq (.nd) (.sq (.mk [] [0, 0, 0, 7, 15, 31]) (.nd)))
theorem e6 (k : Nat) (y : Tup h6) : EX Tryd.f6 A6 h6 [] R6 n6 [C15 k, C16 k] k y = F6 k y.1 y.2.1 y.2.2 := by kernel_rfl
noncomputable def C6 (k : Nat) : Con Tryd.prog := CK 6 Tryd.func6 (e6 k)
noncomputable def F20 (k : Nat) (x1 : Int) (x2 : Int) (x3 : Int) (x4 : Bool) (x5 : Bool) (x6 : Int) (x7 : t4t) (x8 : Int) (x9 : Bool) (x10 : Int) (x11 : t3t) : Option t10t :=
some (x1, x2, x3, x4, false, 0, x7, x8, x9, x10)
def A20 : CTpl := ⟨[.pt 1000000 0], [(1000000, .bx 53 [.i .i64, .i .i64, .i .i64, .b, .pt 1000001 0, .b, .mp 1000002, .i .i64, .fz .u q1q, .i .u32, .b, .i .i64]), (1000001, .bx 59 [.mp 1000003]), (1000002, .bx 3000000 []), (1000003, .mp ⟨.s, true, q0q⟩)]⟩
def h20 : List HTy := [.ti, .ti, .ti, .tb, .tb, .ti, .tl q1q, .ti, .tb, .ti, .tm ⟨.s, true, q0q⟩]
def R20 : List RTpl := [⟨.tp [], [(1000000, .bx 53 [.i .i64, .i .i64, .i .i64, .b, .pt 1000001 0, .b, .mp 500000, .i .i64, .fz .u q1q, .i .u32, .b, .i .i64]), (500000, .bx 3000000 [])], [.ti, .ti, .ti, .tb, .tb, .ti, .tl q1q, .ti, .tb, .ti]⟩]
def n20 : An := .nd
theorem e20 (k : Nat) (y : Tup h20) : EX Tryd.f20 A20 h20 [1000001, 1000002, 1000003] R20 n20 [] k y = F20 k y.1 y.2.1 y.2.2.1 y.2.2.2.1 y.2.2.2.2.1 y.2.2.2.2.2.1 y.2.2.2.2.2.2.1 y.2.2.2.2.2.2.2.1 y.2.2.2.2.2.2.2.2.1 y.2.2.2.2.2.2.2.2.2.1 y.2.2.2.2.2.2.2.2.2.2 := by kernel_rfl
noncomputable def C20 (k : Nat) : Con Tryd.prog := CK 20 Tryd.func20 (e20 k)
noncomputable def F40 (k : Nat) (x1 : (List ByteArray)) : Option (List ByteArray) :=
nilT x1.isEmpty (
some ([] : List ByteArray)) (
grd (decide ((([] : List ByteArray).length + x1.length) * 16 ≤ 140737488355328)) <|
some (([] : List ByteArray) ++ x1))
def A40 : CTpl := ⟨[.fz .u (.str .nil)], []⟩
def h40 : List HTy := [.tl (.str .nil)]
def R40 : List RTpl := [⟨.sl .u 500000, [(500000, .ar 9 (.str .nil))], [.tl (.str .nil)]⟩]
def n40 : An := .nd
theorem e40 (k : Nat) (y : Tup h40) : EX Tryd.f40 A40 h40 [] R40 n40 [] k y = F40 k y := by kernel_rfl
noncomputable def C40 (k : Nat) : Con Tryd.prog := CK 40 Tryd.func40 (e40 k)
noncomputable def L56_8 (k : Nat) (z3 : (ByteArray × Nat × (List Int))) : Option ((ByteArray × Nat × (List Int)) ⊕ (ByteArray × Nat × (List Int))) :=
cond (decide (z3.2.1 < z3.1.size)) (
grd (decide ((z3.2.2.length + [((Utf8.decode z3.1 z3.2.1).1 : Int)].length) * 4 ≤ 140737488355328)) <|
some (.inl (z3.1, (z3.2.1 + (Utf8.decode z3.1 z3.2.1).2), (z3.2.2 ++ [((Utf8.decode z3.1 z3.2.1).1 : Int)])))) (
some (.inr (z3.1, z3.2.1, z3.2.2)))
noncomputable def F56 (k : Nat) (x1 : ByteArray) : Option (List Int) :=
(loopN (L56_8 k) k (x1, 0, ([] : List Int))).bind fun y4 => 
some y4.2.2
def A56 : CTpl := ⟨[.s], []⟩
def h56 : List HTy := [.ts]
def R56 : List RTpl := [⟨.sl .u 500000, [(500000, .ar 21 (.int .i32 .nil))], [.tl (.int .i32 .nil)]⟩]
def n56 : An := .sq (.nd) (.sq (.nd) (.sq (.sq (.nd) (.lp [7] [] ⟨[(3, .sl .n 300400)], [(7, .si), (300400, .ar 21 (.int .i32 .nil))]⟩ [.ts, .tn, .tl (.int .i32 .nil)] [(2, ⟨[(3, .sl .n 300425)], [(7, .si), (300425, .ar 21 (.int .i32 .nil))]⟩)] [[.ts, .tn, .tl (.int .i32 .nil)]] (.nd))) (.nd)))
theorem e56 (k : Nat) (y : Tup h56) : EX Tryd.f56 A56 h56 [] R56 n56 [] k y = F56 k y := by kernel_rfl
noncomputable def C56 (k : Nat) : Con Tryd.prog := CK 56 Tryd.func56 (e56 k)
noncomputable def F95 (k : Nat) (x1 : Int) : Option Bool :=
some (x1 != x1)
def A95 : CTpl := ⟨[.i .i32], []⟩
def h95 : List HTy := [.ti]
def R95 : List RTpl := [⟨.b, [], [.tb]⟩]
def n95 : An := .nd
theorem e95 (k : Nat) (y : Tup h95) : EX Tryd.f95 A95 h95 [] R95 n95 [] k y = F95 k y := by kernel_rfl
noncomputable def C95 (k : Nat) : Con Tryd.prog := CK 95 Tryd.func95 (e95 k)
noncomputable def F84 (k : Nat) (x1 : Int) (x2 : Int) : Option Int :=
(F95 k x1).bind fun y2 => 
(F95 k x2).bind fun y4 => 
cond y2 (
cond y4 (
some 0) (
some (-1))) (
cond y4 (
some 1) (
cond (decide (x1 < x2)) (
some (-1)) (
cond (decide (x2 < x1)) (
some 1) (
some 0))))
def A84 : CTpl := ⟨[.i .i32, .i .i32], []⟩
def h84 : List HTy := [.ti, .ti]
def R84 : List RTpl := [⟨.i .i64, [], [.ti]⟩]
def n84 : An := .nd
theorem e84 (k : Nat) (y : Tup h84) : EX Tryd.f84 A84 h84 [] R84 n84 [C95 k] k y = F84 k y.1 y.2 := by kernel_rfl
noncomputable def C84 (k : Nat) : Con Tryd.prog := CK 84 Tryd.func84 (e84 k)
noncomputable def L57_6 (k : Nat) (x1 : (List Int)) (x2 : (List Int)) (z27 : Int) : Option (Int ⊕ (Int ⊕ Unit)) :=
cond (decide (z27 < (x1.length : Int))) (
(ix x1 z27).bind fun a28 =>
cond (decide ((x2.length : Int) ≤ z27)) (
some (.inr (.inl 1))) (
(ix x2 z27).bind fun a29 =>
(x2[z27.toNat]?).bind fun a30 =>
(F84 k a28 a30).bind fun y31 => 
cond (y31 != 0) (
some (.inr (.inl y31))) (
some (.inl (IntKind.wrap .i64 (z27 + 1)))))) (
some (.inr (.inr ())))
noncomputable def F57 (k : Nat) (x1 : (List Int)) (x2 : (List Int)) : Option Int :=
(loopN (L57_6 k x1 x2) k 0).bind fun y32 => 
sel (fun y33 =>
some y33) (fun y34 =>
cond (decide ((x1.length : Int) < (x2.length : Int))) (
some (-1)) (
some 0)) y32
def A57 : CTpl := ⟨[.fz .u (.int .i32 .nil), .sl .u 1000000], [(1000000, .ar 21 (.int .i32 .nil))]⟩
def h57 : List HTy := [.tl (.int .i32 .nil), .tl (.int .i32 .nil)]
def R57 : List RTpl := [⟨.i .i64, [], [.ti]⟩]
def n57 : An := .sq (.nd) (.sq (.sq (.nd) (.lp [0, 1, 9, 10] [] ⟨[(11, .i .i64)], []⟩ [.ti] [(1, ⟨[(4, .i .i64)], []⟩), (2, ⟨[], []⟩)] [[.ti], []] (.nd))) (.nd))
theorem e57 (k : Nat) (y : Tup h57) : EX Tryd.f57 A57 h57 [1000000] R57 n57 [C84 k] k y = F57 k y.1 y.2 := by kernel_rfl
noncomputable def C57 (k : Nat) : Con Tryd.prog := CK 57 Tryd.func57 (e57 k)
noncomputable def L57_1_6 (k : Nat) (x1 : (List Int)) (x2 : (List Int)) (z22 : Int) : Option (Int ⊕ (Int ⊕ Unit)) :=
cond (decide (z22 < (x1.length : Int))) (
(ix x1 z22).bind fun a23 =>
cond (decide ((x2.length : Int) ≤ z22)) (
some (.inr (.inl 1))) (
(ix x2 z22).bind fun a24 =>
(F84 k a23 a24).bind fun y25 => 
cond (y25 != 0) (
some (.inr (.inl y25))) (
some (.inl (IntKind.wrap .i64 (z22 + 1)))))) (
some (.inr (.inr ())))
noncomputable def F57_1 (k : Nat) (x1 : (List Int)) (x2 : (List Int)) : Option Int :=
(loopN (L57_1_6 k x1 x2) k 0).bind fun y26 => 
sel (fun y27 =>
some y27) (fun y28 =>
cond (decide ((x1.length : Int) < (x2.length : Int))) (
some (-1)) (
some 0)) y26
def A57_1 : CTpl := ⟨[.fz .u (.int .i32 .nil), .fz .u (.int .i32 .nil)], []⟩
def h57_1 : List HTy := [.tl (.int .i32 .nil), .tl (.int .i32 .nil)]
def R57_1 : List RTpl := [⟨.i .i64, [], [.ti]⟩]
def n57_1 : An := .sq (.nd) (.sq (.sq (.nd) (.lp [0, 1, 9, 10] [] ⟨[(11, .i .i64)], []⟩ [.ti] [(1, ⟨[(4, .i .i64)], []⟩), (2, ⟨[], []⟩)] [[.ti], []] (.nd))) (.nd))
theorem e57_1 (k : Nat) (y : Tup h57_1) : EX Tryd.f57 A57_1 h57_1 [] R57_1 n57_1 [C84 k] k y = F57_1 k y.1 y.2 := by kernel_rfl
noncomputable def C57_1 (k : Nat) : Con Tryd.prog := CK 57 Tryd.func57 (e57_1 k)
noncomputable def F43 (k : Nat) (x1 : ByteArray) (x2 : ByteArray) : Option Int :=
(F56 k x1).bind fun y3 => 
(F56 k x2).bind fun y4 => 
(F57_1 k y3 y4).bind fun y5 => 
some y5
def A43 : CTpl := ⟨[.s, .s], []⟩
def h43 : List HTy := [.ts, .ts]
def R43 : List RTpl := [⟨.i .i64, [], [.ti]⟩]
def n43 : An := .sq (.nd) (.sq (.nd) (.sq (.fr [(2, 400800), (2, 401000)]) (.nd)))
theorem e43 (k : Nat) (y : Tup h43) : EX Tryd.f43 A43 h43 [] R43 n43 [C56 k, C57_1 k] k y = F43 k y.1 y.2 := by kernel_rfl
noncomputable def C43 (k : Nat) : Con Tryd.prog := CK 43 Tryd.func43 (e43 k)
noncomputable def F44 (k : Nat) (x1 : ByteArray) (x2 : ByteArray) : Option Int :=
some (Go.Lib.compareBytes x1.data.toList x2.data.toList)
def A44 : CTpl := ⟨[.s, .s], []⟩
def h44 : List HTy := [.ts, .ts]
def R44 : List RTpl := [⟨.i .i64, [], [.ti]⟩]
def n44 : An := .nd
noncomputable def C44 (k : Nat) : Con Tryd.prog := ⟨44, Tryd.f44, Tryd.func44, by kernel_rfl, by kernel_rfl, A44, h44, [], R44, fun y => F44 k y.1 y.2, fun y r h => by
  have h2 : some (Go.Lib.compareBytes y.1.data.toList y.2.data.toList) = some r := h
  cases h2
  exact CTx.lib (vs := [.string y.1, .string y.2]) rfl (fun _ _ _ => .t _ _ (.sc _ rfl)) fun w _ => (Tryd.strings_Compare y.1 y.2 w).mono fun e w2 g => ⟨g.1, by rw [g.2]; exact Below.refl _ _, fun _ => by rw [g.2]; exact Nat.le_refl _⟩⟩
noncomputable def F42 (k : Nat) (x1 : ByteArray) (x2 : ByteArray) : Option Int :=
(F43 k x1 x2).bind fun y3 => 
cond (y3 != 0) (
some y3) (
(F44 k x1 x2).bind fun y4 => 
some y4)
def A42 : CTpl := ⟨[.s, .s], []⟩
def h42 : List HTy := [.ts, .ts]
def R42 : List RTpl := [⟨.i .i64, [], [.ti]⟩]
def n42 : An := .nd
theorem e42 (k : Nat) (y : Tup h42) : EX Tryd.f42 A42 h42 [] R42 n42 [C43 k, C44 k] k y = F42 k y.1 y.2 := by kernel_rfl
noncomputable def C42 (k : Nat) : Con Tryd.prog := CK 42 Tryd.func42 (e42 k)
noncomputable def F41 (k : Nat) (x1 : (List ByteArray)) : Option (List ByteArray) :=
sortF (F42 k) x1
def A41 : CTpl := ⟨[.sl .u 1000000, .c (.func (.func 42) #[] #[])], [(1000000, .ar 9 (.str .nil))]⟩
def h41 : List HTy := [.tl (.str .nil)]
def R41 : List RTpl := [⟨.tp [], [(1000000, .ar 9 (.str .nil))], [.tl (.str .nil)]⟩]
def n41 : An := .nd
noncomputable def C41 (k : Nat) : Con Tryd.prog := ⟨41, Tryd.f41, Tryd.func41, by kernel_rfl, by kernel_rfl, A41, h41, [], R41, fun y => F41 k y, fun y r h => by
  have h2 : sortF (F42 k) y = some r := h
  exact CTx.sortFunc (ρ := Tryd.laysSlF6_f41_ren) Tryd.laysSlF6_f41 { Tryd.laysSlF6_f41 with } (enters Tryd.func42 (by kernel_rfl) (by kernel_rfl)) (fun a b n g => @Con.ok ⟨true⟩ _ (@C42 ⟨true⟩ k) (a, b) n g) 9 (by decide) h2⟩
noncomputable def L45_32 (k : Nat) (z156 : (Int × (List ByteArray))) (z161 : (Int × Int × (List ByteArray))) : Option ((Int × Int × (List ByteArray)) ⊕ (Int × (List ByteArray))) :=
cond (decide (z161.2.1 < (((((z156.2.length : Int).toNat) - z156.1.toNat) : Nat) : Int))) (
((grd (decide (0 ≤ z161.2.1 ∧ z161.2.1 < (((((z156.2.length : Int).toNat) - z156.1.toNat) : Nat) : Int))) <|
(z161.2.2[(z156.1.toNat + z161.2.1.toNat)]?).bind fun a162 =>
grd (decide (0 ≤ (IntKind.wrap .i64 (z161.2.1 - 1)) ∧ (IntKind.wrap .i64 (z161.2.1 - 1)) < (((((z156.2.length : Int).toNat) - z156.1.toNat) : Nat) : Int))) <|
(z161.2.2[(z156.1.toNat + ((IntKind.wrap .i64 (z161.2.1 - 1)).toNat))]?).bind fun a163 =>
cond (!(a162.toList == a163.toList)) (
grd (decide (0 ≤ z161.2.1 ∧ z161.2.1 < (((((z156.2.length : Int).toNat) - z156.1.toNat) : Nat) : Int))) <|
(z161.2.2[(z156.1.toNat + z161.2.1.toNat)]?).bind fun a164 =>
(ix z161.2.2 z161.1).bind fun a165 =>
((z161.2.2[z161.1.toNat]?).bind fun a166 => some a164).bind fun a167 =>
some ((IntKind.wrap .i64 (z161.1 + 1)), (z161.2.2.set z161.1.toNat a167))) (
some (z161.1, z161.2.2)) : Option (Int × (List ByteArray)))).bind fun y168 => 
some (.inl (y168.1, (IntKind.wrap .i64 (z161.2.1 + 1)), y168.2))) (
some (.inr (z161.1, z161.2.2)))
noncomputable def L45_14 (k : Nat) (z156 : (Int × (List ByteArray))) : Option ((Int × (List ByteArray)) ⊕ ((Nat × Nat × (List ByteArray)) ⊕ (List ByteArray))) :=
cond (decide (z156.1 < (z156.2.length : Int))) (
(ix z156.2 z156.1).bind fun a157 =>
(z156.2[z156.1.toNat]?).bind fun a158 =>
(ix z156.2 (IntKind.wrap .i64 (z156.1 - 1))).bind fun a159 =>
(z156.2[(IntKind.wrap .i64 (z156.1 - 1)).toNat]?).bind fun a160 =>
cond (a158.toList == a160.toList) (
grd (bnds (z156.2.length : Int) z156.1 (z156.2.length : Int)) <|
(loopN (L45_32 k z156) k (z156.1, 1, z156.2)).bind fun y169 => 
grd (bnds (y169.2.length : Int) y169.1 (y169.2.length : Int)) <|
grd (bnds ((y169.2.take y169.1.toNat ++ List.replicate (((y169.2.length : Int).toNat) - y169.1.toNat) ByteArray.empty ++ y169.2.drop (y169.1.toNat + (((y169.2.length : Int).toNat) - y169.1.toNat))).length : Int) 0 y169.1) <|
some (.inr (.inl (0, (y169.1.toNat - 0), (y169.2.take y169.1.toNat ++ List.replicate (((y169.2.length : Int).toNat) - y169.1.toNat) ByteArray.empty ++ y169.2.drop (y169.1.toNat + (((y169.2.length : Int).toNat) - y169.1.toNat))))))) (
some (.inl ((IntKind.wrap .i64 (z156.1 + 1)), z156.2)))) (
some (.inr (.inr z156.2)))
noncomputable def F45 (k : Nat) (x1 : (List ByteArray)) : Option (List ByteArray) :=
cond (decide ((x1.length : Int) < 2)) (
some x1) (
(loopN (L45_14 k) k (1, x1)).bind fun y170 => 
sel (fun y171 =>
some ((y171.2.2.drop y171.1).take y171.2.1)) (fun y172 =>
some y172) y170)
def A45 : CTpl := ⟨[.sl .u 1000000], [(1000000, .ar 9 (.str .nil))]⟩
def h45 : List HTy := [.tl (.str .nil)]
def R45 : List RTpl := [⟨.fz .u (.str .nil), [(1000000, .gone)], [.tl (.str .nil)]⟩]
def n45 : An := .sq (.nd) (.sq (.nd) (.sq (.sq (.nd) (.lp [0] [] ⟨[(3, .i .i64)], [(1000000, .ar 9 (.str .nil))]⟩ [.ti, .tl (.str .nil)] [(1, ⟨[(2, .sw 1000000)], [(1000000, .ar 9 (.str .nil))]⟩), (2, ⟨[], [(1000000, .ar 9 (.str .nil))]⟩)] [[.tn, .tn, .tl (.str .nil)], [.tl (.str .nil)]] (.sq (.nd) (.sq (.sq (.mk [] [0, 0, 3, 7, 0, 0, 32, 112, 240, 511]) (.sq (.sq (.nd) (.sq (.sq (.nd) (.lp [4] [] ⟨[(3, .i .i64), (5, .i .i64)], [(1000000, .ar 9 (.str .nil))]⟩ [.ti, .ti, .tl (.str .nil)] [(4, ⟨[(3, .i .i64)], [(1000000, .ar 9 (.str .nil))]⟩)] [[.ti, .tl (.str .nil)]] (.sq (.nd) (.jn [5] [] [(0, ⟨[(3, .i .i64)], [(1000000, .ar 9 (.str .nil))]⟩)] [[.ti, .tl (.str .nil)]] (.sq (.mk [] [0, 0, 3, 7, 0, 0, 32, 112, 240, 511]) (.nd)) (.nd))))) (.nd))) (.nd))) (.nd))))) (.nd)))
theorem e45 (k : Nat) (y : Tup h45) : EX Tryd.f45 A45 h45 [] R45 n45 [] k y = F45 k y := by kernel_rfl
noncomputable def C45 (k : Nat) : Con Tryd.prog := CK 45 Tryd.func45 (e45 k)
noncomputable def F26 (k : Nat) (x1 : (List ByteArray)) : Option (List ByteArray) :=
(F40 k x1).bind fun y2 => 
(F41 k y2).bind fun y4 => 
(F45 k y4).bind fun y5 => 
some y5
def A26 : CTpl := ⟨[.fz .u (.str .nil)], []⟩
def h26 : List HTy := [.tl (.str .nil)]
def R26 : List RTpl := [⟨.fz .u (.str .nil), [], [.tl (.str .nil)]⟩]
def n26 : An := .nd
theorem e26 (k : Nat) (y : Tup h26) : EX Tryd.f26 A26 h26 [] R26 n26 [C40 k, C41 k, C45 k] k y = F26 k y := by kernel_rfl
noncomputable def C26 (k : Nat) : Con Tryd.prog := CK 26 Tryd.func26 (e26 k)
noncomputable def L19_16 (k : Nat) {R : Type} (z11 : ((t3t × t3t) × (List ByteArray))) (Kin : ((t3t × t3t) × (List ByteArray)) → Option R) (Kout : (t3t × (List ByteArray)) → Option R) : Option R :=
cond z11.1.2.isEmpty (
Kout (z11.1.1, z11.2)) (
anyL z11.1.2 fun j12 => fun a13 =>
grd (decide ((z11.2.length + [a13.1].length) * 16 ≤ 140737488355328)) <|
Kin ((z11.1.1, (List.eraseIdx z11.1.2 j12)), (z11.2 ++ [a13.1])))
noncomputable def F19 (k : Nat) (x1 : t3t) : Option ((List ByteArray) × t3t) :=
loopC (L19_16 k) k ((x1, x1), ([] : List ByteArray)) fun y14 => 
(F26 k y14.2).bind fun y15 => 
some (y15, y14.1)
def A19 : CTpl := ⟨[.pt 1000000 0], [(1000000, .bx 59 [.mp 1000001]), (1000001, .mp ⟨.s, true, q0q⟩)]⟩
def h19 : List HTy := [.tm ⟨.s, true, q0q⟩]
def R19 : List RTpl := [⟨.fz .u (.str .nil), [(1000000, .bx 59 [.mp 1000001]), (1000001, .mp ⟨.s, true, q0q⟩)], [.tl (.str .nil), .tm ⟨.s, true, q0q⟩]⟩]
def n19 : An := .sq (.nd) (.sq (.nd) (.sq (.nd) (.sq (.sq (.nd) (.lc [11] [11, 1000000] ⟨[(3, .sl .n 300800)], [(1000001, .mq ⟨.s, true, q0q⟩ 11), (300800, .ar 9 (.str .nil))]⟩ [.tq ⟨.s, true, q0q⟩, .tl (.str .nil)] [(2, ⟨[(3, .sl .n 300825)], [(1000001, .mp ⟨.s, true, q0q⟩), (300825, .ar 9 (.str .nil))]⟩)] [[.tm ⟨.s, true, q0q⟩, .tl (.str .nil)]] (.nd))) (.sq (.fr [(1, 300825)]) (.nd)))))
theorem e19 (k : Nat) (y : Tup h19) : EX Tryd.f19 A19 h19 [] R19 n19 [C26 k] k y = F19 k y := by kernel_rfl
noncomputable def C19 (k : Nat) : Con Tryd.prog := CK 19 Tryd.func19 (e19 k)
noncomputable def L18_16 (k : Nat) (x1 : (List ByteArray)) (x2 : t3t) (z13 : (Int × t6t)) : Option ((Int × t6t) ⊕ t6t) :=
cond (decide (z13.1 < (x1.length : Int))) (
(ix x1 z13.1).bind fun a14 =>
(some ((mget sEq x2 a14).getD (ByteArray.empty, false, ByteArray.empty, 0), (mget sEq x2 a14).isSome)).bind fun a15 =>
grd (decide ((z13.2.length + [(a14, a15.1.2.1, a15.1.2.2.1, a15.1.2.2.2)].length) * 48 ≤ 140737488355328)) <|
some (.inl ((IntKind.wrap .i64 (z13.1 + 1)), (z13.2 ++ [(a14, a15.1.2.1, a15.1.2.2.1, a15.1.2.2.2)])))) (
some (.inr z13.2))
noncomputable def F18 (k : Nat) (x1 : (List ByteArray)) (x2 : t3t) : Option t6t :=
(loopN (L18_16 k x1 x2) k (0, ([] : List (ByteArray × Bool × ByteArray × Int)))).bind fun y16 => 
some y16
def A18 : CTpl := ⟨[.pt 1000000 0, .fz .u (.str .nil)], [(1000000, .bx 59 [.mp 1000001]), (1000001, .mp ⟨.s, true, q0q⟩)]⟩
def h18 : List HTy := [.tl (.str .nil), .tm ⟨.s, true, q0q⟩]
def R18 : List RTpl := [⟨.sl .u 500000, [(500000, .ar 41 q0q)], [.tl q0q]⟩]
def n18 : An := .sq (.nd) (.sq (.nd) (.sq (.nd) (.sq (.sq (.nd) (.lp [0, 11, 12] [] ⟨[(5, .sl .n 300800), (13, .i .i64)], [(300800, .ar 41 q0q)]⟩ [.ti, .tl q0q] [(2, ⟨[(5, .sl .n 300825)], [(300825, .ar 41 q0q)]⟩)] [[.tl q0q]] (.nd))) (.nd))))
theorem e18 (k : Nat) (y : Tup h18) : EX Tryd.f18 A18 h18 [1000000, 1000001] R18 n18 [] k y = F18 k y.1 y.2 := by kernel_rfl
noncomputable def C18 (k : Nat) : Con Tryd.prog := CK 18 Tryd.func18 (e18 k)
noncomputable def F14 (k : Nat) (x1 : Int) (x2 : Int) (x3 : Int) (x4 : Bool) (x5 : Bool) (x6 : Int) (x7 : t4t) (x8 : Int) (x9 : Bool) (x10 : Int) (x11 : t3t) : Option (t3t × t6t) :=
(F19 k x11).bind fun y1 => 
(F18 k y1.1 y1.2).bind fun y2 => 
some (y1.2, y2)
def A14 : CTpl := ⟨[.pt 1000000 0], [(1000000, .bx 53 [.i .i64, .i .i64, .i .i64, .b, .pt 1000001 0, .b, .mp 1000002, .i .i64, .fz .u q1q, .i .u32, .b, .i .i64]), (1000001, .bx 59 [.mp 1000003]), (1000002, .bx 3000000 []), (1000003, .mp ⟨.s, true, q0q⟩)]⟩
def h14 : List HTy := [.ti, .ti, .ti, .tb, .tb, .ti, .tl q1q, .ti, .tb, .ti, .tm ⟨.s, true, q0q⟩]
def R14 : List RTpl := [⟨.sl .u 500000, [(1000001, .bx 59 [.mp 1000003]), (1000003, .mp ⟨.s, true, q0q⟩), (500000, .ar 41 q0q)], [.tm ⟨.s, true, q0q⟩, .tl q0q]⟩]
def n14 : An := .sq (.nd) (.sq (.nd) (.sq (.mk [] [0, 1, 3, 7, 0, 16, 48, 112, 240, 511, 1023]) (.nd)))
theorem e14 (k : Nat) (y : Tup h14) : EX Tryd.f14 A14 h14 [1000000, 1000002] R14 n14 [C19 k, C18 k] k y = F14 k y.1 y.2.1 y.2.2.1 y.2.2.2.1 y.2.2.2.2.1 y.2.2.2.2.2.1 y.2.2.2.2.2.2.1 y.2.2.2.2.2.2.2.1 y.2.2.2.2.2.2.2.2.1 y.2.2.2.2.2.2.2.2.2.1 y.2.2.2.2.2.2.2.2.2.2 := by kernel_rfl
noncomputable def C14 (k : Nat) : Con Tryd.prog := CK 14 Tryd.func14 (e14 k)
noncomputable def F67 (k : Nat) (x1 : Int) (x2 : Int) (x3 : Int) : Option Int :=
(F15 k x1 x2 x3).bind fun y3 => 
cond (!y3) (
some 0) (
some (IntKind.wrap .i64 (x2 - 1)))
def A67 : CTpl := ⟨[.ag [.i .i64, .i .i64, .i .i64]], []⟩
def h67 : List HTy := [.ti, .ti, .ti]
def R67 : List RTpl := [⟨.i .i64, [], [.ti]⟩]
def n67 : An := .nd
theorem e67 (k : Nat) (y : Tup h67) : EX Tryd.f67 A67 h67 [] R67 n67 [C15 k] k y = F67 k y.1 y.2.1 y.2.2 := by kernel_rfl
noncomputable def C67 (k : Nat) : Con Tryd.prog := CK 67 Tryd.func67 (e67 k)
noncomputable def F50 (k : Nat) (x1 : Int) (x2 : Int) (x3 : Int) : Option Int :=
(F15 k x1 x2 x3).bind fun y3 => 
cond (!y3) (
some 0) (
(F67 k x1 x2 x3).bind fun y4 => 
some (IntKind.wrap .i64 ((IntKind.wrap .i64 (x3 - 2)) * y4)))
def A50 : CTpl := ⟨[.ag [.i .i64, .i .i64, .i .i64]], []⟩
def h50 : List HTy := [.ti, .ti, .ti]
def R50 : List RTpl := [⟨.i .i64, [], [.ti]⟩]
def n50 : An := .sq (.nd) (.sq (.nd) (.sq (.mk [] [0, 1, 3, 0, 8, 31, 63]) (.nd)))
theorem e50 (k : Nat) (y : Tup h50) : EX Tryd.f50 A50 h50 [] R50 n50 [C15 k, C67 k] k y = F50 k y.1 y.2.1 y.2.2 := by kernel_rfl
noncomputable def C50 (k : Nat) : Con Tryd.prog := CK 50 Tryd.func50 (e50 k)
noncomputable def F32 (k : Nat) (x1 : Int) (x2 : Int) (x3 : Int) (x4 : Bool) (x5 : Bool) (x6 : Int) (x7 : t4t) (x8 : Int) (x9 : Bool) (x10 : Int) (x11 : t3t) : Option Bool :=
cond x9 (
some true) (
(F50 k x1 x2 x3).bind fun y1 => 
some (decide (y1 < x10)))
def A32 : CTpl := ⟨[.pt 1000000 0], [(1000000, .bx 53 [.i .i64, .i .i64, .i .i64, .b, .pt 1000001 0, .b, .mp 1000002, .i .i64, .fz .u q1q, .i .u32, .b, .i .i64]), (1000001, .bx 59 [.mp 1000003]), (1000002, .bx 3000000 []), (1000003, .mp ⟨.s, true, q0q⟩)]⟩
def h32 : List HTy := [.ti, .ti, .ti, .tb, .tb, .ti, .tl q1q, .ti, .tb, .ti, .tm ⟨.s, true, q0q⟩]
def R32 : List RTpl := [⟨.b, [], [.tb]⟩]
def n32 : An := .sq (.nd) (.sq (.mk [] [0, 1, 3, 7, 15, 31, 63, 127, 255, 31, 543, 1567, 3615, 7711, 16383, 32767, 65535]) (.nd))
theorem e32 (k : Nat) (y : Tup h32) : EX Tryd.f32 A32 h32 [1000000, 1000001, 1000002, 1000003] R32 n32 [C50 k] k y = F32 k y.1 y.2.1 y.2.2.1 y.2.2.2.1 y.2.2.2.2.1 y.2.2.2.2.2.1 y.2.2.2.2.2.2.1 y.2.2.2.2.2.2.2.1 y.2.2.2.2.2.2.2.2.1 y.2.2.2.2.2.2.2.2.2.1 y.2.2.2.2.2.2.2.2.2.2 := by kernel_rfl
noncomputable def C32 (k : Nat) : Con Tryd.prog := CK 32 Tryd.func32 (e32 k)
noncomputable def L27_10 (k : Nat) (x1 : t6t) (y40 : (t3t × t6t)) (z41 : (Int × Int × Int × (List ByteArray))) : Option ((Int × Int × Int × (List ByteArray)) ⊕ (Int × Int × (List ByteArray))) :=
cond (decide (z41.2.2.1 < (y40.2.length : Int))) (
(((ix y40.2 z41.2.2.1).bind fun a42 =>
(y40.2[z41.2.2.1.toNat]?).bind fun a43 =>
((cond (decide (z41.2.1 < (x1.length : Int))) (
(ix x1 z41.2.1).bind fun a44 =>
some ((a44.1.toList == a43.1.toList) && ((a44.2.1 == a43.2.1) && ((a44.2.2.1.toList == a43.2.2.1.toList) && ((a44.2.2.2 == a43.2.2.2) && true))))) (
some false) : Option Bool)).bind fun y45 => 
cond y45 (
some (z41.1, (IntKind.wrap .i64 (z41.2.1 + 1)), z41.2.2.2)) (
grd (decide ((z41.2.2.2.length + [a43.1].length) * 16 ≤ 140737488355328)) <|
some ((mx z41.1 a43.2.2.2), z41.2.1, (z41.2.2.2 ++ [a43.1]))) : Option (Int × Int × (List ByteArray)))).bind fun y46 => 
some (.inl (y46.1, y46.2.1, (IntKind.wrap .i64 (z41.2.2.1 + 1)), y46.2.2))) (
some (.inr (z41.1, z41.2.1, z41.2.2.2)))
noncomputable def L27_45 (k : Nat) (x1 : t6t) (y47 : (Int × Int × (List ByteArray))) (z62 : Int) : Option (Int ⊕ (Unit ⊕ Unit)) :=
cond (decide (z62 < (x1.length : Int))) (
(ix x1 z62).bind fun a63 =>
cond (decide (a63.2.2.2 ≤ y47.1)) (
some (.inr (.inl ()))) (
some (.inl (IntKind.wrap .i64 (z62 + 1))))) (
some (.inr (.inr ())))
noncomputable def F27 (k : Nat) (x1 : t6t) (x2 : Int) (x3 : Int) (x4 : Int) (x5 : Bool) (x6 : Bool) (x7 : Int) (x8 : t4t) (x9 : Int) (x10 : Bool) (x11 : Int) (x12 : t3t) : Option ((Bool × t3t) ⊕ (Bool × t3t × (List ByteArray))) :=
(F14 k x2 x3 x4 x5 x6 x7 x8 x9 x10 x11 x12).bind fun y40 => 
(loopN (L27_10 k x1 y40) k (0, 0, 0, ([] : List ByteArray))).bind fun y47 => 
((cond (decide (y47.2.1 < (x1.length : Int))) (
some true) (
cond (decide (0 < (y47.2.2.length : Int))) (
(F32 k x2 x3 x4 x5 x6 x7 x8 x9 x10 x11 y40.1).bind fun y51 => 
some (!y51)) (
some false)) : Option Bool)).bind fun y52 => 
cond y52 (
some (.inl (false, y40.1))) (
(loopN (L27_45 k x1 y47) k 0).bind fun y64 => 
sel (fun y65 =>
some (.inl (false, y40.1))) (fun y66 =>
some (.inr (true, y40.1, y47.2.2))) y64)
def A27 : CTpl := ⟨[.pt 1000000 0, .fz .u q0q], [(1000000, .bx 53 [.i .i64, .i .i64, .i .i64, .b, .pt 1000001 0, .b, .mp 1000002, .i .i64, .fz .u q1q, .i .u32, .b, .i .i64]), (1000001, .bx 59 [.mp 1000003]), (1000002, .bx 3000000 []), (1000003, .mp ⟨.s, true, q0q⟩)]⟩
def h27 : List HTy := [.tl q0q, .ti, .ti, .ti, .tb, .tb, .ti, .tl q1q, .ti, .tb, .ti, .tm ⟨.s, true, q0q⟩]
def R27 : List RTpl := [⟨.tp [.c (.slice none 0 0), .b], [(1000001, .bx 59 [.mp 1000003]), (1000003, .mp ⟨.s, true, q0q⟩)], [.tb, .tm ⟨.s, true, q0q⟩]⟩, ⟨.tp [.sl .u 500000, .b], [(1000001, .bx 59 [.mp 1000003]), (1000003, .mp ⟨.s, true, q0q⟩), (500000, .ar 9 (.str .nil))], [.tb, .tm ⟨.s, true, q0q⟩, .tl (.str .nil)]⟩]
def n27 : An := .sq (.nd) (.sq (.nd) (.sq (.nd) (.sq (.sq (.nd) (.lp [0, 1, 14, 15] [401400, 1000001, 1000003] ⟨[(6, .sl .n 300500), (7, .i .u32), (8, .i .i64), (16, .i .i64)], [(300500, .ar 9 (.str .nil))]⟩ [.ti, .ti, .ti, .tl (.str .nil)] [(2, ⟨[(6, .sl .n 300525), (7, .i .u32), (8, .i .i64)], [(300525, .ar 9 (.str .nil))]⟩)] [[.ti, .ti, .tl (.str .nil)]] (.sq (.nd) (.sq (.nd) (.jn [16] [] [(0, ⟨[(6, .sl .n 300850), (7, .i .u32), (8, .i .i64)], [(300850, .ar 9 (.str .nil))]⟩)] [[.ti, .ti, .tl (.str .nil)]] (.sq (.nd) (.sq (.jn [6, 7, 8, 10] [10, 300500] [(0, ⟨[(31, .b)], []⟩)] [[.tb]] (.mk [] [0, 0, 2, 7, 15, 31, 31, 127, 255, 31, 1023, 2047]) (.nd)) (.nd))) (.nd)))))) (.sq (.jn [1, 6, 7] [300525, 1000001, 1000003] [(0, ⟨[(57, .b)], []⟩)] [[.tb]] (.nd) (.nd)) (.sq (.sq (.nd) (.lp [6, 7, 58, 59] [300525, 1000001, 1000003] ⟨[(60, .i .i64)], []⟩ [.ti] [(1, ⟨[(4, .c (.slice none 0 0)), (5, .lb false)], []⟩), (4, ⟨[], []⟩)] [[], []] (.nd))) (.nd))))))
theorem e27 (k : Nat) (y : Tup h27) : EX Tryd.f27 A27 h27 [1000000, 1000002] R27 n27 [C14 k, C32 k] k y = F27 k y.1 y.2.1 y.2.2.1 y.2.2.2.1 y.2.2.2.2.1 y.2.2.2.2.2.1 y.2.2.2.2.2.2.1 y.2.2.2.2.2.2.2.1 y.2.2.2.2.2.2.2.2.1 y.2.2.2.2.2.2.2.2.2.1 y.2.2.2.2.2.2.2.2.2.2.1 y.2.2.2.2.2.2.2.2.2.2.2 := by kernel_rfl
noncomputable def C27 (k : Nat) : Con Tryd.prog := CK 27 Tryd.func27 (e27 k)
noncomputable def L28_6 (k : Nat) (x1 : (List ByteArray)) (z6 : (Int × t3t)) : Option ((Int × t3t) ⊕ t3t) :=
cond (decide (z6.1 < (x1.length : Int))) (
(ix x1 z6.1).bind fun a7 =>
some (.inl ((IntKind.wrap .i64 (z6.1 + 1)), (mdel sEq z6.2 a7)))) (
some (.inr z6.2))
noncomputable def F28 (k : Nat) (x1 : (List ByteArray)) (x2 : t3t) : Option t3t :=
(loopN (L28_6 k x1) k (0, x2)).bind fun y8 => 
some y8
def A28 : CTpl := ⟨[.pt 1000000 0, .fz .u (.str .nil)], [(1000000, .bx 59 [.mp 1000001]), (1000001, .mp ⟨.s, true, q0q⟩)]⟩
def h28 : List HTy := [.tl (.str .nil), .tm ⟨.s, true, q0q⟩]
def R28 : List RTpl := [⟨.tp [], [(1000001, .mp ⟨.s, true, q0q⟩)], [.tm ⟨.s, true, q0q⟩]⟩]
def n28 : An := .sq (.nd) (.sq (.sq (.nd) (.lp [0, 8, 9] [] ⟨[(10, .i .i64)], [(1000001, .mp ⟨.s, true, q0q⟩)]⟩ [.ti, .tm ⟨.s, true, q0q⟩] [(2, ⟨[], [(1000001, .mp ⟨.s, true, q0q⟩)]⟩)] [[.tm ⟨.s, true, q0q⟩]] (.nd))) (.nd))
theorem e28 (k : Nat) (y : Tup h28) : EX Tryd.f28 A28 h28 [1000000] R28 n28 [] k y = F28 k y.1 y.2 := by kernel_rfl
noncomputable def C28 (k : Nat) : Con Tryd.prog := CK 28 Tryd.func28 (e28 k)
noncomputable def L21_48 (k : Nat) (x5 : t6t) (z22 : (Int × Int)) : Option ((Int × Int) ⊕ Int) :=
cond (decide (z22.2 < (x5.length : Int))) (
(ix x5 z22.2).bind fun a23 =>
some (.inl ((mx z22.1 a23.2.2.2), (IntKind.wrap .i64 (z22.2 + 1))))) (
some (.inr z22.1))
noncomputable def F21 (k : Nat) (x1 : Int) (x2 : Int) (x3 : Int) (x4 : Int) (x5 : t6t) (x6 : (List ByteArray)) (x7 : (List ByteArray)) (x8 : Int) (x9 : Int) (x10 : Int) (x11 : Bool) (x12 : Bool) (x13 : Int) (x14 : t4t) (x15 : Int) (x16 : Bool) (x17 : Int) (x18 : t3t) : Option t9t :=
cond x12 (
some ((x1 == 7), x8, x9, x10, x11, x12, x13, x14, x15, x16, x17, x18)) (
cond (x1 != 0) (
some ((x1 != 7), x8, x9, x10, x11, x12, x13, x14, x15, x16, x17, x18)) (
(((F27 k x5 x8 x9 x10 x11 true x13 x14 x15 x16 x17 x18).bind fun y10 => 
sel (fun y11 =>
some (y11.1, y11.2, ([] : List ByteArray))) (fun y12 =>
some (y12.1, y12.2.1, y12.2.2)) y10 : Option (Bool × t3t × (List ByteArray)))).bind fun y13 => 
cond y13.1 (
(F28 k y13.2.2 y13.2.1).bind fun y14 => 
some (true, x8, x9, x10, x11, true, x13, ([] : List (ByteArray × Bool × ByteArray)), x15, x16, x17, y14)) (
cond ((x14.length : Int) == 0) (
some (false, x8, x9, x10, x11, true, x13, x14, x15, x16, x17, y13.2.1)) (
(loopN (L21_48 k x5) k (0, 0)).bind fun y24 => 
((cond (decide (y24 ≤ x15)) (
some (IntKind.wrap .u32 (x15 + 1))) (
some y24) : Option Int)).bind fun y25 => 
none))))
def A21 : CTpl := ⟨[.pt 1000000 0, .ag [.i .i64, .i .i64, .i .u32, .i .i64, .fz .u q0q, .fz .u (.str .nil), .fz .u (.str .nil)]], [(1000000, .bx 53 [.i .i64, .i .i64, .i .i64, .b, .pt 1000001 0, .b, .mp 1000002, .i .i64, .fz .u q1q, .i .u32, .b, .i .i64]), (1000001, .bx 59 [.mp 1000003]), (1000002, .bx 3000000 []), (1000003, .mp ⟨.s, true, q0q⟩)]⟩
def h21 : List HTy := [.ti, .ti, .ti, .ti, .tl q0q, .tl (.str .nil), .tl (.str .nil), .ti, .ti, .ti, .tb, .tb, .ti, .tl q1q, .ti, .tb, .ti, .tm ⟨.s, true, q0q⟩]
def R21 : List RTpl := [⟨.b, [(1000000, .bx 53 [.i .i64, .i .i64, .i .i64, .b, .pt 1000001 0, .b, .mp 1000002, .i .i64, .fz .u q1q, .i .u32, .b, .i .i64]), (1000001, .bx 59 [.mp 1000003]), (1000002, .bx 3000000 []), (1000003, .mp ⟨.s, true, q0q⟩)], [.tb, .ti, .ti, .ti, .tb, .tb, .ti, .tl q1q, .ti, .tb, .ti, .tm ⟨.s, true, q0q⟩]⟩]
def n21 : An := .sq (.nd) (.sq (.nd) (.sq (.nd) (.sq (.nd) (.sq (.jn [0, 3] [3, 1000000, 1000002] [(0, ⟨[(5, .sl .u 301050), (6, .b)], [(1000001, .bx 59 [.mp 1000003]), (1000003, .mp ⟨.s, true, q0q⟩), (301050, .ar 9 (.str .nil))]⟩)] [[.tb, .tm ⟨.s, true, q0q⟩, .tl (.str .nil)]] (.nd) (.sq (.nd) (.sq (.sq (.nd) (.sq (.fr [(5, 301050)]) (.nd))) (.nd)))) (.sq (.nd) (.sq (.nd) (.sq (.sq (.nd) (.lp [0, 3, 52, 53] [3, 1000000, 1000001, 1000002, 1000003] ⟨[(7, .i .u32), (54, .i .i64)], []⟩ [.ti, .ti] [(2, ⟨[(7, .i .u32)], []⟩)] [[.ti]] (.nd))) (.jn [0, 3] [3, 1000000, 1000001, 1000002, 1000003] [(0, ⟨[(7, .i .u32)], []⟩)] [[.ti]] (.nd) (.nd)))))))))
theorem e21 (k : Nat) (y : Tup h21) : EX Tryd.f21 A21 h21 [] R21 n21 [C27 k, C28 k] k y = F21 k y.1 y.2.1 y.2.2.1 y.2.2.2.1 y.2.2.2.2.1 y.2.2.2.2.2.1 y.2.2.2.2.2.2.1 y.2.2.2.2.2.2.2.1 y.2.2.2.2.2.2.2.2.1 y.2.2.2.2.2.2.2.2.2.1 y.2.2.2.2.2.2.2.2.2.2.1 y.2.2.2.2.2.2.2.2.2.2.2.1 y.2.2.2.2.2.2.2.2.2.2.2.2.1 y.2.2.2.2.2.2.2.2.2.2.2.2.2.1 y.2.2.2.2.2.2.2.2.2.2.2.2.2.2.1 y.2.2.2.2.2.2.2.2.2.2.2.2.2.2.2.1 y.2.2.2.2.2.2.2.2.2.2.2.2.2.2.2.2.1 y.2.2.2.2.2.2.2.2.2.2.2.2.2.2.2.2.2 := by kernel_rfl
noncomputable def C21 (k : Nat) : Con Tryd.prog := CK 21 Tryd.func21 (e21 k)
noncomputable def F37 (k : Nat) : Option (t4t × t5t) :=
some (([] : List (ByteArray × Bool × ByteArray)), ([] : List (ByteArray × Int × Int)))
def A37 : CTpl := ⟨[], []⟩
def h37 : List HTy := []
def R37 : List RTpl := [⟨.pt 500000 0, [(500000, .bx 89 [.fz .u q1q, .fz .u q2q])], [.tl q1q, .tl q2q]⟩]
def n37 : An := .nd
theorem e37 (k : Nat) (y : Tup h37) : EX Tryd.f37 A37 h37 [] R37 n37 [] k y = F37 k := by kernel_rfl
noncomputable def C37 (k : Nat) : Con Tryd.prog := CK 37 Tryd.func37 (e37 k)
noncomputable def L23_16 (k : Nat) (y17 : t6t) (z18 : (Int × Int)) : Option ((Int × Int) ⊕ (Unit ⊕ Int)) :=
cond (decide (z18.2 < (y17.length : Int))) (
(ix y17 z18.2).bind fun a19 =>
(y17[z18.2.toNat]?).bind fun a20 =>
cond (!a20.2.1) (
some (.inr (.inl ()))) (
some (.inl ((mx z18.1 a20.2.2.2), (IntKind.wrap .i64 (z18.2 + 1)))))) (
some (.inr (.inr z18.1)))
noncomputable def L23_43 (k : Nat) (y23 : Int) (y42 : (t3t × t6t)) (z43 : Int) : Option (Int ⊕ (Unit ⊕ Unit)) :=
cond (decide (z43 < (y42.2.length : Int))) (
(ix y42.2 z43).bind fun a44 =>
(y42.2[z43.toNat]?).bind fun a45 =>
cond (decide (a45.2.2.2 ≤ y23)) (
some (.inr (.inl ()))) (
some (.inl (IntKind.wrap .i64 (z43 + 1))))) (
some (.inr (.inr ())))
noncomputable def F23 (k : Nat) (x1 : (List ByteArray)) (x2 : Int) (x3 : Int) (x4 : Int) (x5 : Bool) (x6 : Bool) (x7 : Int) (x8 : t4t) (x9 : Int) (x10 : Bool) (x11 : Int) (x12 : t3t) : Option (Bool × t3t) :=
cond ((x1.length : Int) == 0) (
some (true, x12)) (
(F18 k x1 x12).bind fun y17 => 
(loopN (L23_16 k y17) k (0, 0)).bind fun y21 => 
sel (fun y22 =>
some (false, x12)) (fun y23 =>
(F28 k x1 x12).bind fun y25 => 
(F14 k x2 x3 x4 x5 x6 x7 x8 x9 x10 x11 y25).bind fun y42 => 
(loopN (L23_43 k y23 y42) k 0).bind fun y46 => 
sel (fun y47 =>
some (false, y42.1)) (fun y48 =>
(F32 k x2 x3 x4 x5 x6 x7 x8 x9 x10 x11 y42.1).bind fun y49 => 
some (y49, y42.1)) y46) y21)
def A23 : CTpl := ⟨[.pt 1000000 0, .fz .u (.str .nil)], [(1000000, .bx 53 [.i .i64, .i .i64, .i .i64, .b, .pt 1000001 0, .b, .mp 1000002, .i .i64, .fz .u q1q, .i .u32, .b, .i .i64]), (1000001, .bx 59 [.mp 1000003]), (1000002, .bx 3000000 []), (1000003, .mp ⟨.s, true, q0q⟩)]⟩
def h23 : List HTy := [.tl (.str .nil), .ti, .ti, .ti, .tb, .tb, .ti, .tl q1q, .ti, .tb, .ti, .tm ⟨.s, true, q0q⟩]
def R23 : List RTpl := [⟨.b, [(1000001, .bx 59 [.mp 1000003]), (1000003, .mp ⟨.s, true, q0q⟩)], [.tb, .tm ⟨.s, true, q0q⟩]⟩]
def n23 : An := .sq (.nd) (.sq (.nd) (.sq (.nd) (.sq (.sq (.nd) (.lp [0, 1, 18, 19] [401800, 1000001, 1000003] ⟨[(5, .i .u32), (20, .i .i64)], []⟩ [.ti, .ti] [(1, ⟨[(4, .lb false)], []⟩), (2, ⟨[(5, .i .u32)], []⟩)] [[], [.ti]] (.nd))) (.sq (.nd) (.sq (.sq (.nd) (.lp [0, 5, 39, 40] [403900, 1000001, 1000003] ⟨[(41, .i .i64)], []⟩ [.ti] [(1, ⟨[(4, .lb false)], []⟩), (4, ⟨[], []⟩)] [[], []] (.nd))) (.nd))))))
theorem e23 (k : Nat) (y : Tup h23) : EX Tryd.f23 A23 h23 [1000000, 1000002] R23 n23 [C18 k, C28 k, C14 k, C32 k] k y = F23 k y.1 y.2.1 y.2.2.1 y.2.2.2.1 y.2.2.2.2.1 y.2.2.2.2.2.1 y.2.2.2.2.2.2.1 y.2.2.2.2.2.2.2.1 y.2.2.2.2.2.2.2.2.1 y.2.2.2.2.2.2.2.2.2.1 y.2.2.2.2.2.2.2.2.2.2.1 y.2.2.2.2.2.2.2.2.2.2.2 := by kernel_rfl
noncomputable def C23 (k : Nat) : Con Tryd.prog := CK 23 Tryd.func23 (e23 k)
noncomputable def F25 (k : Nat) (x1 : Int) (x2 : Int) (x3 : ByteArray) (x4 : ByteArray) (x5 : (List ByteArray)) (x6 : Int) (x7 : (List Int)) (x8 : Int) (x9 : Int) (x10 : Int) (x11 : Int) (x12 : Int) (x13 : Int) (x14 : Int) (x15 : t6t) (x16 : (List ByteArray)) (x17 : (List ByteArray)) (x18 : Int) (x19 : Int) (x20 : Int) (x21 : Bool) (x22 : Bool) (x23 : Int) (x24 : t4t) (x25 : Int) (x26 : Bool) (x27 : Int) (x28 : t3t) : Option (t9t ⊕ t7t) :=
cond (x1 == 1) (
cond (x11 != 0) (
some (.inl (true, x18, x19, x20, x21, x22, x23, x24, x25, x26, x27, x28))) (
(F37 k).bind fun y4 => 
some (.inr ((x12 == (IntKind.wrap .i64 (x23 + 1))), x18, x19, x20, x21, x22, (IntKind.wrap .i64 (x23 + 1)), x24, x25, x26, x27, (IntKind.wrap .i64 (x23 + 1)), x28, y4.1, y4.2)))) (
cond (x1 == 8) (
cond (x11 != 0) (
some (.inl (true, x18, x19, x20, x21, x22, x23, x24, x25, x26, x27, x28))) (
none)) (
((cond (x1 == 9) (
some (x11 == 0)) (
some false) : Option Bool)).bind fun y5 => 
cond y5 (
none) (
(F23 k x17 x18 x19 x20 x21 x22 x23 x24 x25 x26 x27 x28).bind fun y6 => 
some (.inl (y6.1, x18, x19, x20, x21, x22, x23, x24, x25, x26, x27, y6.2)))))
def A25 : CTpl := ⟨[.pt 1000000 0, .ag [.i .i64, .i .i64, .s, .s, .fz .u (.str .nil), .i .i64, .fz .u (.int .i64 .nil), .i .i64, .i .i64, .i .i64], .ag [.i .i64, .i .i64, .i .u32, .i .i64, .fz .u q0q, .fz .u (.str .nil), .fz .u (.str .nil)]], [(1000000, .bx 53 [.i .i64, .i .i64, .i .i64, .b, .pt 1000001 0, .b, .mp 1000002, .i .i64, .fz .u q1q, .i .u32, .b, .i .i64]), (1000001, .bx 59 [.mp 1000003]), (1000002, .bx 3000000 []), (1000003, .mp ⟨.s, true, q0q⟩)]⟩
def h25 : List HTy := [.ti, .ti, .ts, .ts, .tl (.str .nil), .ti, .tl (.int .i64 .nil), .ti, .ti, .ti, .ti, .ti, .ti, .ti, .tl q0q, .tl (.str .nil), .tl (.str .nil), .ti, .ti, .ti, .tb, .tb, .ti, .tl q1q, .ti, .tb, .ti, .tm ⟨.s, true, q0q⟩]
def R25 : List RTpl := [⟨.b, [(1000000, .bx 53 [.i .i64, .i .i64, .i .i64, .b, .pt 1000001 0, .b, .mp 1000002, .i .i64, .fz .u q1q, .i .u32, .b, .i .i64]), (1000001, .bx 59 [.mp 1000003]), (1000002, .bx 3000000 []), (1000003, .mp ⟨.s, true, q0q⟩)], [.tb, .ti, .ti, .ti, .tb, .tb, .ti, .tl q1q, .ti, .tb, .ti, .tm ⟨.s, true, q0q⟩]⟩, ⟨.b, [(1000000, .bx 53 [.i .i64, .i .i64, .i .i64, .b, .pt 1000001 0, .b, .mp 1000002, .i .i64, .fz .u q1q, .i .u32, .b, .i .i64]), (1000001, .bx 59 [.mp 1000003]), (1000002, .bx 3000000 [.i .i64, .pt 500000 0]), (1000003, .mp ⟨.s, true, q0q⟩), (500000, .bx 89 [.fz .u q1q, .fz .u q2q])], [.tb, .ti, .ti, .ti, .tb, .tb, .ti, .tl q1q, .ti, .tb, .ti, .ti, .tm ⟨.s, true, q0q⟩, .tl q1q, .tl q2q]⟩]
def n25 : An := .sq (.nd) (.sq (.sq (.nd) (.sq (.sq (.nd) (.sq (.nd) (.sq (.mk [] [0, 1, 3, 7, 0, 16, 48, 112, 0, 511]) (.sq (.mk [] [0, 1, 0, 4, 12, 28, 63, 127]) (.nd))))) (.sq (.nd) (.sq (.sq (.mk [] [0, 1, 3, 7, 15, 31, 15, 15, 143, 463, 1023, 2047, 4095]) (.nd)) (.jn [0, 4, 5] [4, 5, 1000000, 1000001, 1000002, 1000003] [(0, ⟨[(54, .b)], []⟩)] [[.tb]] (.nd) (.nd)))))) (.nd))
theorem e25 (k : Nat) (y : Tup h25) : EX Tryd.f25 A25 h25 [] R25 n25 [C37 k, C23 k] k y = F25 k y.1 y.2.1 y.2.2.1 y.2.2.2.1 y.2.2.2.2.1 y.2.2.2.2.2.1 y.2.2.2.2.2.2.1 y.2.2.2.2.2.2.2.1 y.2.2.2.2.2.2.2.2.1 y.2.2.2.2.2.2.2.2.2.1 y.2.2.2.2.2.2.2.2.2.2.1 y.2.2.2.2.2.2.2.2.2.2.2.1 y.2.2.2.2.2.2.2.2.2.2.2.2.1 y.2.2.2.2.2.2.2.2.2.2.2.2.2.1 y.2.2.2.2.2.2.2.2.2.2.2.2.2.2.1 y.2.2.2.2.2.2.2.2.2.2.2.2.2.2.2.1 y.2.2.2.2.2.2.2.2.2.2.2.2.2.2.2.2.1 y.2.2.2.2.2.2.2.2.2.2.2.2.2.2.2.2.2.1 y.2.2.2.2.2.2.2.2.2.2.2.2.2.2.2.2.2.2.1 y.2.2.2.2.2.2.2.2.2.2.2.2.2.2.2.2.2.2.2.1 y.2.2.2.2.2.2.2.2.2.2.2.2.2.2.2.2.2.2.2.2.1 y.2.2.2.2.2.2.2.2.2.2.2.2.2.2.2.2.2.2.2.2.2.1 y.2.2.2.2.2.2.2.2.2.2.2.2.2.2.2.2.2.2.2.2.2.2.1 y.2.2.2.2.2.2.2.2.2.2.2.2.2.2.2.2.2.2.2.2.2.2.2.1 y.2.2.2.2.2.2.2.2.2.2.2.2.2.2.2.2.2.2.2.2.2.2.2.2.1 y.2.2.2.2.2.2.2.2.2.2.2.2.2.2.2.2.2.2.2.2.2.2.2.2.2.1 y.2.2.2.2.2.2.2.2.2.2.2.2.2.2.2.2.2.2.2.2.2.2.2.2.2.2.1 y.2.2.2.2.2.2.2.2.2.2.2.2.2.2.2.2.2.2.2.2.2.2.2.2.2.2.2 := by kernel_rfl
noncomputable def C25 (k : Nat) : Con Tryd.prog := CK 25 Tryd.func25 (e25 k)
noncomputable def F17 (k : Nat) (x1 : Int) (x2 : Int) (x3 : ByteArray) (x4 : ByteArray) (x5 : (List ByteArray)) (x6 : Int) (x7 : (List Int)) (x8 : Int) (x9 : Int) (x10 : Int) (x11 : Int) (x12 : Int) (x13 : Int) (x14 : Int) (x15 : t6t) (x16 : (List ByteArray)) (x17 : (List ByteArray)) (x18 : Int) (x19 : Int) (x20 : Int) (x21 : Bool) (x22 : Bool) (x23 : Int) (x24 : t4t) (x25 : Int) (x26 : Bool) (x27 : Int) (x28 : t3t) : Option (t9t ⊕ t9t ⊕ t7t) :=
((cond (x1 == 11) (
some true) (
cond (x1 == 12) (
some true) (
some (x1 == 13))) : Option Bool)).bind fun y9 => 
cond y9 (
((cond (x1 == 12) (
(F20 k x18 x19 x20 x21 x22 x23 x24 x25 true x27 x28).bind fun y10 => 
some (.inl (y10.1, y10.2.1, y10.2.2.1, y10.2.2.2.1, y10.2.2.2.2.1, y10.2.2.2.2.2.1, y10.2.2.2.2.2.2.1, y10.2.2.2.2.2.2.2.1, y10.2.2.2.2.2.2.2.2.1, y10.2.2.2.2.2.2.2.2.2))) (
some (.inr (x18, x19, x20, x21, x22, x23, x24, x25, x27))) : Option (t10t ⊕ (Int × Int × Int × Bool × Bool × Int × t4t × Int × Int)))).bind fun y11 => 
sel (fun y12 =>
some (.inl (true, y12.1, y12.2.1, y12.2.2.1, y12.2.2.2.1, y12.2.2.2.2.1, y12.2.2.2.2.2.1, y12.2.2.2.2.2.2.1, y12.2.2.2.2.2.2.2.1, y12.2.2.2.2.2.2.2.2.1, y12.2.2.2.2.2.2.2.2.2, x28))) (fun y13 =>
some (.inr (.inl (true, y13.1, y13.2.1, y13.2.2.1, y13.2.2.2.1, y13.2.2.2.2.1, y13.2.2.2.2.2.1, y13.2.2.2.2.2.2.1, y13.2.2.2.2.2.2.2.1, true, y13.2.2.2.2.2.2.2.2, x28)))) y11) (
cond (x1 == 14) (
(F21 k x11 x12 x13 x14 x15 x16 x17 x18 x19 x20 x21 x22 x23 x24 x25 x26 x27 x28).bind fun y14 => 
some (.inr (.inl (y14.1, y14.2.1, y14.2.2.1, y14.2.2.2.1, y14.2.2.2.2.1, y14.2.2.2.2.2.1, y14.2.2.2.2.2.2.1, y14.2.2.2.2.2.2.2.1, y14.2.2.2.2.2.2.2.2.1, y14.2.2.2.2.2.2.2.2.2.1, y14.2.2.2.2.2.2.2.2.2.2.1, y14.2.2.2.2.2.2.2.2.2.2.2)))) (
((cond (decide (x1 < 1)) (
some true) (
some (decide (14 < x1))) : Option Bool)).bind fun y15 => 
cond y15 (
some (.inr (.inl ((x11 == 1), x18, x19, x20, x21, x22, x23, x24, x25, x26, x27, x28)))) (
cond (!x22) (
some (.inr (.inl ((x11 == 6), x18, x19, x20, x21, x22, x23, x24, x25, x26, x27, x28)))) (
((cond x26 (
some (x18, x19, x20, x21, x22, x23, x24, x25, true, x27)) (
some (x18, x19, x20, x21, x22, x23, x24, x25, (x1 == 7), x27)) : Option t10t)).bind fun y16 => 
((cond (x11 == 6) (
some true) (
some (x11 == 7)) : Option Bool)).bind fun y18 => 
cond y18 (
none) (
((cond (x1 == 2) (
some (x1 == 2)) (
cond (x1 == 3) (
some (x1 == 3)) (
cond (x1 == 4) (
some (x1 == 4)) (
cond (x1 == 5) (
some (x1 == 5)) (
some (x1 == 6))))) : Option Bool)).bind fun y20 => 
cond y20 (
some (.inr (.inl ((x11 == 9), y16.1, y16.2.1, y16.2.2.1, y16.2.2.2.1, y16.2.2.2.2.1, y16.2.2.2.2.2.1, y16.2.2.2.2.2.2.1, y16.2.2.2.2.2.2.2.1, y16.2.2.2.2.2.2.2.2.1, y16.2.2.2.2.2.2.2.2.2, x28)))) (
(F25 k x1 x2 x3 x4 x5 x6 x7 x8 x9 x10 x11 x12 x13 x14 x15 x16 x17 y16.1 y16.2.1 y16.2.2.1 y16.2.2.2.1 y16.2.2.2.2.1 y16.2.2.2.2.2.1 y16.2.2.2.2.2.2.1 y16.2.2.2.2.2.2.2.1 y16.2.2.2.2.2.2.2.2.1 y16.2.2.2.2.2.2.2.2.2 x28).bind fun y21 => 
sel (fun y22 =>
some (.inr (.inl (y22.1, y22.2.1, y22.2.2.1, y22.2.2.2.1, y22.2.2.2.2.1, y22.2.2.2.2.2.1, y22.2.2.2.2.2.2.1, y22.2.2.2.2.2.2.2.1, y22.2.2.2.2.2.2.2.2.1, y22.2.2.2.2.2.2.2.2.2.1, y22.2.2.2.2.2.2.2.2.2.2.1, y22.2.2.2.2.2.2.2.2.2.2.2)))) (fun y23 =>
some (.inr (.inr (y23.1, y23.2.1, y23.2.2.1, y23.2.2.2.1, y23.2.2.2.2.1, y23.2.2.2.2.2.1, y23.2.2.2.2.2.2.1, y23.2.2.2.2.2.2.2.1, y23.2.2.2.2.2.2.2.2.1, y23.2.2.2.2.2.2.2.2.2.1, y23.2.2.2.2.2.2.2.2.2.2.1, y23.2.2.2.2.2.2.2.2.2.2.2.1, y23.2.2.2.2.2.2.2.2.2.2.2.2.1, y23.2.2.2.2.2.2.2.2.2.2.2.2.2.1, y23.2.2.2.2.2.2.2.2.2.2.2.2.2.2)))) y21))))))
def A17 : CTpl := ⟨[.pt 1000000 0, .ag [.i .i64, .i .i64, .s, .s, .fz .u (.str .nil), .i .i64, .fz .u (.int .i64 .nil), .i .i64, .i .i64, .i .i64], .ag [.i .i64, .i .i64, .i .u32, .i .i64, .fz .u q0q, .fz .u (.str .nil), .fz .u (.str .nil)]], [(1000000, .bx 53 [.i .i64, .i .i64, .i .i64, .b, .pt 1000001 0, .b, .mp 1000002, .i .i64, .fz .u q1q, .i .u32, .b, .i .i64]), (1000001, .bx 59 [.mp 1000003]), (1000002, .bx 3000000 []), (1000003, .mp ⟨.s, true, q0q⟩)]⟩
def h17 : List HTy := [.ti, .ti, .ts, .ts, .tl (.str .nil), .ti, .tl (.int .i64 .nil), .ti, .ti, .ti, .ti, .ti, .ti, .ti, .tl q0q, .tl (.str .nil), .tl (.str .nil), .ti, .ti, .ti, .tb, .tb, .ti, .tl q1q, .ti, .tb, .ti, .tm ⟨.s, true, q0q⟩]
def R17 : List RTpl := [⟨.b, [(1000000, .bx 53 [.i .i64, .i .i64, .i .i64, .b, .pt 1000001 0, .b, .mp 500000, .i .i64, .fz .u q1q, .i .u32, .b, .i .i64]), (1000001, .bx 59 [.mp 1000003]), (1000002, .bx 3000000 []), (1000003, .mp ⟨.s, true, q0q⟩), (500000, .bx 3000000 [])], [.tb, .ti, .ti, .ti, .tb, .tb, .ti, .tl q1q, .ti, .tb, .ti, .tm ⟨.s, true, q0q⟩]⟩, ⟨.b, [(1000000, .bx 53 [.i .i64, .i .i64, .i .i64, .b, .pt 1000001 0, .b, .mp 1000002, .i .i64, .fz .u q1q, .i .u32, .b, .i .i64]), (1000001, .bx 59 [.mp 1000003]), (1000002, .bx 3000000 []), (1000003, .mp ⟨.s, true, q0q⟩)], [.tb, .ti, .ti, .ti, .tb, .tb, .ti, .tl q1q, .ti, .tb, .ti, .tm ⟨.s, true, q0q⟩]⟩, ⟨.b, [(1000000, .bx 53 [.i .i64, .i .i64, .i .i64, .b, .pt 1000001 0, .b, .mp 1000002, .i .i64, .fz .u q1q, .i .u32, .b, .i .i64]), (1000001, .bx 59 [.mp 1000003]), (1000002, .bx 3000000 [.i .i64, .pt 500000 0]), (1000003, .mp ⟨.s, true, q0q⟩), (500000, .bx 89 [.fz .u q1q, .fz .u q2q])], [.tb, .ti, .ti, .ti, .tb, .tb, .ti, .tl q1q, .ti, .tb, .ti, .ti, .tm ⟨.s, true, q0q⟩, .tl q1q, .tl q2q]⟩]
def n17 : An := .sq (.nd) (.sq (.jn [0, 4, 5] [4, 5, 1000000, 1000001, 1000002, 1000003] [(0, ⟨[(10, .b)], []⟩)] [[.tb]] (.nd) (.sq (.sq (.nd) (.jn [] [1000001, 1000002, 1000003] [(0, ⟨[], [(1000000, .bx 53 [.i .i64, .i .i64, .i .i64, .b, .pt 1000001 0, .b, .mp 300450, .i .i64, .fz .u q1q, .i .u32, .b, .i .i64]), (300450, .bx 3000000 [])]⟩), (0, ⟨[], [(1000000, .bx 53 [.i .i64, .i .i64, .i .i64, .b, .pt 1000001 0, .b, .mp 1000002, .i .i64, .fz .u q1q, .i .u32, .lb true, .i .i64])]⟩)] [[.ti, .ti, .ti, .tb, .tb, .ti, .tl q1q, .ti, .tb, .ti], [.ti, .ti, .ti, .tb, .tb, .ti, .tl q1q, .ti, .ti]] (.nd) (.nd))) (.sq (.nd) (.sq (.nd) (.jn [0, 4, 5] [4, 5, 1000000, 1000001, 1000002, 1000003] [(0, ⟨[(39, .b)], []⟩)] [[.tb]] (.nd) (.nd)))))) (.jn [0, 4, 5] [4, 5, 1000001, 1000002, 1000003] [(0, ⟨[], [(1000000, .bx 53 [.i .i64, .i .i64, .i .i64, .b, .pt 1000001 0, .b, .mp 1000002, .i .i64, .fz .u q1q, .i .u32, .b, .i .i64])]⟩)] [[.ti, .ti, .ti, .tb, .tb, .ti, .tl q1q, .ti, .tb, .ti]] (.nd) (.sq (.jn [0, 4, 5] [4, 5, 1000000, 1000001, 1000002, 1000003] [(0, ⟨[(79, .b)], []⟩)] [[.tb]] (.nd) (.nd)) (.sq (.sq (.nd) (.jn [0, 4, 5] [4, 5, 1000000, 1000001, 1000002, 1000003] [(0, ⟨[(95, .b)], []⟩)] [[.tb]] (.nd) (.sq (.sq (.mk [] [0, 1, 3, 7, 0, 16, 63, 127, 255, 255, 511, 2047]) (.nd)) (.nd)))) (.nd)))))
theorem e17 (k : Nat) (y : Tup h17) : EX Tryd.f17 A17 h17 [] R17 n17 [C20 k, C21 k, C25 k] k y = F17 k y.1 y.2.1 y.2.2.1 y.2.2.2.1 y.2.2.2.2.1 y.2.2.2.2.2.1 y.2.2.2.2.2.2.1 y.2.2.2.2.2.2.2.1 y.2.2.2.2.2.2.2.2.1 y.2.2.2.2.2.2.2.2.2.1 y.2.2.2.2.2.2.2.2.2.2.1 y.2.2.2.2.2.2.2.2.2.2.2.1 y.2.2.2.2.2.2.2.2.2.2.2.2.1 y.2.2.2.2.2.2.2.2.2.2.2.2.2.1 y.2.2.2.2.2.2.2.2.2.2.2.2.2.2.1 y.2.2.2.2.2.2.2.2.2.2.2.2.2.2.2.1 y.2.2.2.2.2.2.2.2.2.2.2.2.2.2.2.2.1 y.2.2.2.2.2.2.2.2.2.2.2.2.2.2.2.2.2.1 y.2.2.2.2.2.2.2.2.2.2.2.2.2.2.2.2.2.2.1 y.2.2.2.2.2.2.2.2.2.2.2.2.2.2.2.2.2.2.2.1 y.2.2.2.2.2.2.2.2.2.2.2.2.2.2.2.2.2.2.2.2.1 y.2.2.2.2.2.2.2.2.2.2.2.2.2.2.2.2.2.2.2.2.2.1 y.2.2.2.2.2.2.2.2.2.2.2.2.2.2.2.2.2.2.2.2.2.2.1 y.2.2.2.2.2.2.2.2.2.2.2.2.2.2.2.2.2.2.2.2.2.2.2.1 y.2.2.2.2.2.2.2.2.2.2.2.2.2.2.2.2.2.2.2.2.2.2.2.2.1 y.2.2.2.2.2.2.2.2.2.2.2.2.2.2.2.2.2.2.2.2.2.2.2.2.2.1 y.2.2.2.2.2.2.2.2.2.2.2.2.2.2.2.2.2.2.2.2.2.2.2.2.2.2.1 y.2.2.2.2.2.2.2.2.2.2.2.2.2.2.2.2.2.2.2.2.2.2.2.2.2.2.2 := by kernel_rfl
noncomputable def C17 (k : Nat) : Con Tryd.prog := CK 17 Tryd.func17 (e17 k)
noncomputable def F10 (k : Nat) (x1 : Int) (x2 : Int) (x3 : ByteArray) (x4 : ByteArray) (x5 : (List ByteArray)) (x6 : Int) (x7 : (List Int)) (x8 : Int) (x9 : Int) (x10 : Int) (x11 : Int) (x12 : Int) (x13 : Int) (x14 : Int) (x15 : t6t) (x16 : (List ByteArray)) (x17 : (List ByteArray)) (x18 : Int) (x19 : Int) (x20 : Int) (x21 : Bool) (x22 : Bool) (x23 : Int) (x24 : t4t) (x25 : Int) (x26 : Bool) (x27 : Int) (x28 : t3t) : Option (t9t ⊕ t9t ⊕ t7t) :=
cond x21 (
some (.inl (false, x18, x19, x20, x21, x22, x23, x24, x25, x26, x27, x28))) (
(((F17 k x1 x2 x3 x4 x5 x6 x7 x8 x9 x10 x11 x12 x13 x14 x15 x16 x17 x18 x19 x20 x21 x22 x23 x24 x25 x26 x27 x28).bind fun y6 => 
sel (fun y7 =>
some (.inl (y7.2.1, y7.2.2.1, y7.2.2.2.1, (!y7.1), y7.2.2.2.2.2.1, y7.2.2.2.2.2.2.1, y7.2.2.2.2.2.2.2.1, y7.2.2.2.2.2.2.2.2.1, y7.2.2.2.2.2.2.2.2.2.1, y7.2.2.2.2.2.2.2.2.2.2.1, y7.2.2.2.2.2.2.2.2.2.2.2))) (fun y8 =>
sel (fun y9 =>
some (.inr (.inl (y9.2.1, y9.2.2.1, y9.2.2.2.1, (!y9.1), y9.2.2.2.2.2.1, y9.2.2.2.2.2.2.1, y9.2.2.2.2.2.2.2.1, y9.2.2.2.2.2.2.2.2.1, y9.2.2.2.2.2.2.2.2.2.1, y9.2.2.2.2.2.2.2.2.2.2.1, y9.2.2.2.2.2.2.2.2.2.2.2)))) (fun y10 =>
some (.inr (.inr (y10.2.1, y10.2.2.1, y10.2.2.2.1, (!y10.1), y10.2.2.2.2.2.1, y10.2.2.2.2.2.2.1, y10.2.2.2.2.2.2.2.1, y10.2.2.2.2.2.2.2.2.1, y10.2.2.2.2.2.2.2.2.2.1, y10.2.2.2.2.2.2.2.2.2.2.1, y10.2.2.2.2.2.2.2.2.2.2.2.1, y10.2.2.2.2.2.2.2.2.2.2.2.2.1, y10.2.2.2.2.2.2.2.2.2.2.2.2.2.1, y10.2.2.2.2.2.2.2.2.2.2.2.2.2.2)))) y8) y6 : Option ((Int × Int × Int × Bool × Bool × Int × t4t × Int × Bool × Int × t3t) ⊕ (Int × Int × Int × Bool × Bool × Int × t4t × Int × Bool × Int × t3t) ⊕ (Int × Int × Int × Bool × Bool × Int × t4t × Int × Bool × Int × Int × t3t × t4t × t5t)))).bind fun y11 => 
sel (fun y12 =>
some (.inr (.inl ((!y12.2.2.2.1), y12.1, y12.2.1, y12.2.2.1, y12.2.2.2.1, y12.2.2.2.2.1, y12.2.2.2.2.2.1, y12.2.2.2.2.2.2.1, y12.2.2.2.2.2.2.2.1, y12.2.2.2.2.2.2.2.2.1, y12.2.2.2.2.2.2.2.2.2.1, y12.2.2.2.2.2.2.2.2.2.2)))) (fun y13 =>
sel (fun y14 =>
some (.inl ((!y14.2.2.2.1), y14.1, y14.2.1, y14.2.2.1, y14.2.2.2.1, y14.2.2.2.2.1, y14.2.2.2.2.2.1, y14.2.2.2.2.2.2.1, y14.2.2.2.2.2.2.2.1, y14.2.2.2.2.2.2.2.2.1, y14.2.2.2.2.2.2.2.2.2.1, y14.2.2.2.2.2.2.2.2.2.2))) (fun y15 =>
some (.inr (.inr ((!y15.2.2.2.1), y15.1, y15.2.1, y15.2.2.1, y15.2.2.2.1, y15.2.2.2.2.1, y15.2.2.2.2.2.1, y15.2.2.2.2.2.2.1, y15.2.2.2.2.2.2.2.1, y15.2.2.2.2.2.2.2.2.1, y15.2.2.2.2.2.2.2.2.2.1, y15.2.2.2.2.2.2.2.2.2.2.1, y15.2.2.2.2.2.2.2.2.2.2.2.1, y15.2.2.2.2.2.2.2.2.2.2.2.2.1, y15.2.2.2.2.2.2.2.2.2.2.2.2.2)))) y13) y11)
def A10 : CTpl := ⟨[.pt 1000000 0, .ag [.i .i64, .i .i64, .s, .s, .fz .u (.str .nil), .i .i64, .fz .u (.int .i64 .nil), .i .i64, .i .i64, .i .i64], .ag [.i .i64, .i .i64, .i .u32, .i .i64, .fz .u q0q, .fz .u (.str .nil), .fz .u (.str .nil)]], [(1000000, .bx 53 [.i .i64, .i .i64, .i .i64, .b, .pt 1000001 0, .b, .mp 1000002, .i .i64, .fz .u q1q, .i .u32, .b, .i .i64]), (1000001, .bx 59 [.mp 1000003]), (1000002, .bx 3000000 []), (1000003, .mp ⟨.s, true, q0q⟩)]⟩
def h10 : List HTy := [.ti, .ti, .ts, .ts, .tl (.str .nil), .ti, .tl (.int .i64 .nil), .ti, .ti, .ti, .ti, .ti, .ti, .ti, .tl q0q, .tl (.str .nil), .tl (.str .nil), .ti, .ti, .ti, .tb, .tb, .ti, .tl q1q, .ti, .tb, .ti, .tm ⟨.s, true, q0q⟩]
def R10 : List RTpl := [⟨.b, [(1000000, .bx 53 [.i .i64, .i .i64, .i .i64, .b, .pt 1000001 0, .b, .mp 1000002, .i .i64, .fz .u q1q, .i .u32, .b, .i .i64]), (1000001, .bx 59 [.mp 1000003]), (1000002, .bx 3000000 []), (1000003, .mp ⟨.s, true, q0q⟩)], [.tb, .ti, .ti, .ti, .tb, .tb, .ti, .tl q1q, .ti, .tb, .ti, .tm ⟨.s, true, q0q⟩]⟩, ⟨.b, [(1000000, .bx 53 [.i .i64, .i .i64, .i .i64, .b, .pt 1000001 0, .b, .mp 500000, .i .i64, .fz .u q1q, .i .u32, .b, .i .i64]), (1000001, .bx 59 [.mp 1000003]), (1000002, .bx 3000000 []), (1000003, .mp ⟨.s, true, q0q⟩), (500000, .bx 3000000 [])], [.tb, .ti, .ti, .ti, .tb, .tb, .ti, .tl q1q, .ti, .tb, .ti, .tm ⟨.s, true, q0q⟩]⟩, ⟨.b, [(1000000, .bx 53 [.i .i64, .i .i64, .i .i64, .b, .pt 1000001 0, .b, .mp 1000002, .i .i64, .fz .u q1q, .i .u32, .b, .i .i64]), (1000001, .bx 59 [.mp 1000003]), (1000002, .bx 3000000 [.i .i64, .pt 500000 0]), (1000003, .mp ⟨.s, true, q0q⟩), (500000, .bx 89 [.fz .u q1q, .fz .u q2q])], [.tb, .ti, .ti, .ti, .tb, .tb, .ti, .tl q1q, .ti, .tb, .ti, .ti, .tm ⟨.s, true, q0q⟩, .tl q1q, .tl q2q]⟩]
def n10 : An := .sq (.nd) (.sq (.nd) (.jn [0] [] [(0, ⟨[], [(1000000, .bx 53 [.i .i64, .i .i64, .i .i64, .b, .pt 1000001 0, .b, .mp 300500, .i .i64, .fz .u q1q, .i .u32, .b, .i .i64]), (1000001, .bx 59 [.mp 1000003]), (1000002, .bx 3000000 []), (1000003, .mp ⟨.s, true, q0q⟩), (300500, .bx 3000000 [])]⟩), (0, ⟨[], [(1000000, .bx 53 [.i .i64, .i .i64, .i .i64, .b, .pt 1000001 0, .b, .mp 1000002, .i .i64, .fz .u q1q, .i .u32, .b, .i .i64]), (1000001, .bx 59 [.mp 1000003]), (1000002, .bx 3000000 []), (1000003, .mp ⟨.s, true, q0q⟩)]⟩), (0, ⟨[], [(1000000, .bx 53 [.i .i64, .i .i64, .i .i64, .b, .pt 1000001 0, .b, .mp 1000002, .i .i64, .fz .u q1q, .i .u32, .b, .i .i64]), (1000001, .bx 59 [.mp 1000003]), (1000002, .bx 3000000 [.i .i64, .pt 300520 0]), (1000003, .mp ⟨.s, true, q0q⟩), (300520, .bx 89 [.fz .u q1q, .fz .u q2q])]⟩)] [[.ti, .ti, .ti, .tb, .tb, .ti, .tl q1q, .ti, .tb, .ti, .tm ⟨.s, true, q0q⟩], [.ti, .ti, .ti, .tb, .tb, .ti, .tl q1q, .ti, .tb, .ti, .tm ⟨.s, true, q0q⟩], [.ti, .ti, .ti, .tb, .tb, .ti, .tl q1q, .ti, .tb, .ti, .ti, .tm ⟨.s, true, q0q⟩, .tl q1q, .tl q2q]] (.nd) (.nd)))
theorem e10 (k : Nat) (y : Tup h10) : EX Tryd.f10 A10 h10 [] R10 n10 [C17 k] k y = F10 k y.1 y.2.1 y.2.2.1 y.2.2.2.1 y.2.2.2.2.1 y.2.2.2.2.2.1 y.2.2.2.2.2.2.1 y.2.2.2.2.2.2.2.1 y.2.2.2.2.2.2.2.2.1 y.2.2.2.2.2.2.2.2.2.1 y.2.2.2.2.2.2.2.2.2.2.1 y.2.2.2.2.2.2.2.2.2.2.2.1 y.2.2.2.2.2.2.2.2.2.2.2.2.1 y.2.2.2.2.2.2.2.2.2.2.2.2.2.1 y.2.2.2.2.2.2.2.2.2.2.2.2.2.2.1 y.2.2.2.2.2.2.2.2.2.2.2.2.2.2.2.1 y.2.2.2.2.2.2.2.2.2.2.2.2.2.2.2.2.1 y.2.2.2.2.2.2.2.2.2.2.2.2.2.2.2.2.2.1 y.2.2.2.2.2.2.2.2.2.2.2.2.2.2.2.2.2.2.1 y.2.2.2.2.2.2.2.2.2.2.2.2.2.2.2.2.2.2.2.1 y.2.2.2.2.2.2.2.2.2.2.2.2.2.2.2.2.2.2.2.2.1 y.2.2.2.2.2.2.2.2.2.2.2.2.2.2.2.2.2.2.2.2.2.1 y.2.2.2.2.2.2.2.2.2.2.2.2.2.2.2.2.2.2.2.2.2.2.1 y.2.2.2.2.2.2.2.2.2.2.2.2.2.2.2.2.2.2.2.2.2.2.2.1 y.2.2.2.2.2.2.2.2.2.2.2.2.2.2.2.2.2.2.2.2.2.2.2.2.1 y.2.2.2.2.2.2.2.2.2.2.2.2.2.2.2.2.2.2.2.2.2.2.2.2.2.1 y.2.2.2.2.2.2.2.2.2.2.2.2.2.2.2.2.2.2.2.2.2.2.2.2.2.2.1 y.2.2.2.2.2.2.2.2.2.2.2.2.2.2.2.2.2.2.2.2.2.2.2.2.2.2.2 := by kernel_rfl
noncomputable def C10 (k : Nat) : Con Tryd.prog := CK 10 Tryd.func10 (e10 k)
noncomputable def F20_1 (k : Nat) (x1 : Int) (x2 : Int) (x3 : Int) (x4 : Bool) (x5 : Bool) (x6 : Int) (x7 : t4t) (x8 : Int) (x9 : Bool) (x10 : Int) (x11 : Int) (x12 : t3t) (x13 : t4t) (x14 : t5t) : Option t10t :=
some (x1, x2, x3, x4, false, 0, x7, x8, x9, x10)
def A20_1 : CTpl := ⟨[.pt 1000000 0], [(1000000, .bx 53 [.i .i64, .i .i64, .i .i64, .b, .pt 1000001 0, .b, .mp 1000002, .i .i64, .fz .u q1q, .i .u32, .b, .i .i64]), (1000001, .bx 59 [.mp 1000003]), (1000002, .bx 3000000 [.i .i64, .pt 1000004 0]), (1000003, .mp ⟨.s, true, q0q⟩), (1000004, .bx 89 [.fz .u q1q, .fz .u q2q])]⟩
def h20_1 : List HTy := [.ti, .ti, .ti, .tb, .tb, .ti, .tl q1q, .ti, .tb, .ti, .ti, .tm ⟨.s, true, q0q⟩, .tl q1q, .tl q2q]
def R20_1 : List RTpl := [⟨.tp [], [(1000000, .bx 53 [.i .i64, .i .i64, .i .i64, .b, .pt 1000001 0, .b, .mp 500000, .i .i64, .fz .u q1q, .i .u32, .b, .i .i64]), (500000, .bx 3000000 [])], [.ti, .ti, .ti, .tb, .tb, .ti, .tl q1q, .ti, .tb, .ti]⟩]
def n20_1 : An := .nd
theorem e20_1 (k : Nat) (y : Tup h20_1) : EX Tryd.f20 A20_1 h20_1 [1000001, 1000002, 1000003, 1000004] R20_1 n20_1 [] k y = F20_1 k y.1 y.2.1 y.2.2.1 y.2.2.2.1 y.2.2.2.2.1 y.2.2.2.2.2.1 y.2.2.2.2.2.2.1 y.2.2.2.2.2.2.2.1 y.2.2.2.2.2.2.2.2.1 y.2.2.2.2.2.2.2.2.2.1 y.2.2.2.2.2.2.2.2.2.2.1 y.2.2.2.2.2.2.2.2.2.2.2.1 y.2.2.2.2.2.2.2.2.2.2.2.2.1 y.2.2.2.2.2.2.2.2.2.2.2.2.2 := by kernel_rfl
noncomputable def C20_1 (k : Nat) : Con Tryd.prog := CK 20 Tryd.func20 (e20_1 k)
noncomputable def F14_1 (k : Nat) (x1 : Int) (x2 : Int) (x3 : Int) (x4 : Bool) (x5 : Bool) (x6 : Int) (x7 : t4t) (x8 : Int) (x9 : Bool) (x10 : Int) (x11 : Int) (x12 : t3t) (x13 : t4t) (x14 : t5t) : Option (t3t × t6t) :=
(F19 k x12).bind fun y1 => 
(F18 k y1.1 y1.2).bind fun y2 => 
some (y1.2, y2)
def A14_1 : CTpl := ⟨[.pt 1000000 0], [(1000000, .bx 53 [.i .i64, .i .i64, .i .i64, .b, .pt 1000001 0, .b, .mp 1000002, .i .i64, .fz .u q1q, .i .u32, .b, .i .i64]), (1000001, .bx 59 [.mp 1000003]), (1000002, .bx 3000000 [.i .i64, .pt 1000004 0]), (1000003, .mp ⟨.s, true, q0q⟩), (1000004, .bx 89 [.fz .u q1q, .fz .u q2q])]⟩
def h14_1 : List HTy := [.ti, .ti, .ti, .tb, .tb, .ti, .tl q1q, .ti, .tb, .ti, .ti, .tm ⟨.s, true, q0q⟩, .tl q1q, .tl q2q]
def R14_1 : List RTpl := [⟨.sl .u 500000, [(1000001, .bx 59 [.mp 1000003]), (1000003, .mp ⟨.s, true, q0q⟩), (500000, .ar 41 q0q)], [.tm ⟨.s, true, q0q⟩, .tl q0q]⟩]
def n14_1 : An := .sq (.nd) (.sq (.nd) (.sq (.mk [] [0, 1, 3, 7, 0, 16, 48, 112, 240, 511, 1023]) (.nd)))
theorem e14_1 (k : Nat) (y : Tup h14_1) : EX Tryd.f14 A14_1 h14_1 [1000000, 1000002, 1000004] R14_1 n14_1 [C19 k, C18 k] k y = F14_1 k y.1 y.2.1 y.2.2.1 y.2.2.2.1 y.2.2.2.2.1 y.2.2.2.2.2.1 y.2.2.2.2.2.2.1 y.2.2.2.2.2.2.2.1 y.2.2.2.2.2.2.2.2.1 y.2.2.2.2.2.2.2.2.2.1 y.2.2.2.2.2.2.2.2.2.2.1 y.2.2.2.2.2.2.2.2.2.2.2.1 y.2.2.2.2.2.2.2.2.2.2.2.2.1 y.2.2.2.2.2.2.2.2.2.2.2.2.2 := by kernel_rfl
noncomputable def C14_1 (k : Nat) : Con Tryd.prog := CK 14 Tryd.func14 (e14_1 k)
noncomputable def F32_1 (k : Nat) (x1 : Int) (x2 : Int) (x3 : Int) (x4 : Bool) (x5 : Bool) (x6 : Int) (x7 : t4t) (x8 : Int) (x9 : Bool) (x10 : Int) (x11 : Int) (x12 : t3t) (x13 : t4t) (x14 : t5t) : Option Bool :=
cond x9 (
some true) (
(F50 k x1 x2 x3).bind fun y1 => 
some (decide (y1 < x10)))
def A32_1 : CTpl := ⟨[.pt 1000000 0], [(1000000, .bx 53 [.i .i64, .i .i64, .i .i64, .b, .pt 1000001 0, .b, .mp 1000002, .i .i64, .fz .u q1q, .i .u32, .b, .i .i64]), (1000001, .bx 59 [.mp 1000003]), (1000002, .bx 3000000 [.i .i64, .pt 1000004 0]), (1000003, .mp ⟨.s, true, q0q⟩), (1000004, .bx 89 [.fz .u q1q, .fz .u q2q])]⟩
def h32_1 : List HTy := [.ti, .ti, .ti, .tb, .tb, .ti, .tl q1q, .ti, .tb, .ti, .ti, .tm ⟨.s, true, q0q⟩, .tl q1q, .tl q2q]
def R32_1 : List RTpl := [⟨.b, [], [.tb]⟩]
def n32_1 : An := .sq (.nd) (.sq (.mk [] [0, 1, 3, 7, 15, 31, 63, 127, 255, 31, 543, 1567, 3615, 7711, 16383, 32767, 65535]) (.nd))
theorem e32_1 (k : Nat) (y : Tup h32_1) : EX Tryd.f32 A32_1 h32_1 [1000000, 1000001, 1000002, 1000003, 1000004] R32_1 n32_1 [C50 k] k y = F32_1 k y.1 y.2.1 y.2.2.1 y.2.2.2.1 y.2.2.2.2.1 y.2.2.2.2.2.1 y.2.2.2.2.2.2.1 y.2.2.2.2.2.2.2.1 y.2.2.2.2.2.2.2.2.1 y.2.2.2.2.2.2.2.2.2.1 y.2.2.2.2.2.2.2.2.2.2.1 y.2.2.2.2.2.2.2.2.2.2.2.1 y.2.2.2.2.2.2.2.2.2.2.2.2.1 y.2.2.2.2.2.2.2.2.2.2.2.2.2 := by kernel_rfl
noncomputable def C32_1 (k : Nat) : Con Tryd.prog := CK 32 Tryd.func32 (e32_1 k)
noncomputable def L27_1_10 (k : Nat) (x1 : t6t) (y40 : (t3t × t6t)) (z41 : (Int × Int × Int × (List ByteArray))) : Option ((Int × Int × Int × (List ByteArray)) ⊕ (Int × Int × (List ByteArray))) :=
cond (decide (z41.2.2.1 < (y40.2.length : Int))) (
(((ix y40.2 z41.2.2.1).bind fun a42 =>
(y40.2[z41.2.2.1.toNat]?).bind fun a43 =>
((cond (decide (z41.2.1 < (x1.length : Int))) (
(ix x1 z41.2.1).bind fun a44 =>
some ((a44.1.toList == a43.1.toList) && ((a44.2.1 == a43.2.1) && ((a44.2.2.1.toList == a43.2.2.1.toList) && ((a44.2.2.2 == a43.2.2.2) && true))))) (
some false) : Option Bool)).bind fun y45 => 
cond y45 (
some (z41.1, (IntKind.wrap .i64 (z41.2.1 + 1)), z41.2.2.2)) (
grd (decide ((z41.2.2.2.length + [a43.1].length) * 16 ≤ 140737488355328)) <|
some ((mx z41.1 a43.2.2.2), z41.2.1, (z41.2.2.2 ++ [a43.1]))) : Option (Int × Int × (List ByteArray)))).bind fun y46 => 
some (.inl (y46.1, y46.2.1, (IntKind.wrap .i64 (z41.2.2.1 + 1)), y46.2.2))) (
some (.inr (z41.1, z41.2.1, z41.2.2.2)))
noncomputable def L27_1_45 (k : Nat) (x1 : t6t) (y47 : (Int × Int × (List ByteArray))) (z62 : Int) : Option (Int ⊕ (Unit ⊕ Unit)) :=
cond (decide (z62 < (x1.length : Int))) (
(ix x1 z62).bind fun a63 =>
cond (decide (a63.2.2.2 ≤ y47.1)) (
some (.inr (.inl ()))) (
some (.inl (IntKind.wrap .i64 (z62 + 1))))) (
some (.inr (.inr ())))
noncomputable def F27_1 (k : Nat) (x1 : t6t) (x2 : Int) (x3 : Int) (x4 : Int) (x5 : Bool) (x6 : Bool) (x7 : Int) (x8 : t4t) (x9 : Int) (x10 : Bool) (x11 : Int) (x12 : Int) (x13 : t3t) (x14 : t4t) (x15 : t5t) : Option ((Bool × t3t) ⊕ (Bool × t3t × (List ByteArray))) :=
(F14_1 k x2 x3 x4 x5 x6 x7 x8 x9 x10 x11 x12 x13 x14 x15).bind fun y40 => 
(loopN (L27_1_10 k x1 y40) k (0, 0, 0, ([] : List ByteArray))).bind fun y47 => 
((cond (decide (y47.2.1 < (x1.length : Int))) (
some true) (
cond (decide (0 < (y47.2.2.length : Int))) (
(F32_1 k x2 x3 x4 x5 x6 x7 x8 x9 x10 x11 x12 y40.1 x14 x15).bind fun y51 => 
some (!y51)) (
some false)) : Option Bool)).bind fun y52 => 
cond y52 (
some (.inl (false, y40.1))) (
(loopN (L27_1_45 k x1 y47) k 0).bind fun y64 => 
sel (fun y65 =>
some (.inl (false, y40.1))) (fun y66 =>
some (.inr (true, y40.1, y47.2.2))) y64)
def A27_1 : CTpl := ⟨[.pt 1000000 0, .fz .u q0q], [(1000000, .bx 53 [.i .i64, .i .i64, .i .i64, .b, .pt 1000001 0, .b, .mp 1000002, .i .i64, .fz .u q1q, .i .u32, .b, .i .i64]), (1000001, .bx 59 [.mp 1000003]), (1000002, .bx 3000000 [.i .i64, .pt 1000004 0]), (1000003, .mp ⟨.s, true, q0q⟩), (1000004, .bx 89 [.fz .u q1q, .fz .u q2q])]⟩
def h27_1 : List HTy := [.tl q0q, .ti, .ti, .ti, .tb, .tb, .ti, .tl q1q, .ti, .tb, .ti, .ti, .tm ⟨.s, true, q0q⟩, .tl q1q, .tl q2q]
def R27_1 : List RTpl := [⟨.tp [.c (.slice none 0 0), .b], [(1000001, .bx 59 [.mp 1000003]), (1000003, .mp ⟨.s, true, q0q⟩)], [.tb, .tm ⟨.s, true, q0q⟩]⟩, ⟨.tp [.sl .u 500000, .b], [(1000001, .bx 59 [.mp 1000003]), (1000003, .mp ⟨.s, true, q0q⟩), (500000, .ar 9 (.str .nil))], [.tb, .tm ⟨.s, true, q0q⟩, .tl (.str .nil)]⟩]
def n27_1 : An := .sq (.nd) (.sq (.nd) (.sq (.nd) (.sq (.sq (.nd) (.lp [0, 1, 14, 15] [401400, 1000001, 1000003] ⟨[(6, .sl .n 300500), (7, .i .u32), (8, .i .i64), (16, .i .i64)], [(300500, .ar 9 (.str .nil))]⟩ [.ti, .ti, .ti, .tl (.str .nil)] [(2, ⟨[(6, .sl .n 300525), (7, .i .u32), (8, .i .i64)], [(300525, .ar 9 (.str .nil))]⟩)] [[.ti, .ti, .tl (.str .nil)]] (.sq (.nd) (.sq (.nd) (.jn [16] [] [(0, ⟨[(6, .sl .n 300850), (7, .i .u32), (8, .i .i64)], [(300850, .ar 9 (.str .nil))]⟩)] [[.ti, .ti, .tl (.str .nil)]] (.sq (.nd) (.sq (.jn [6, 7, 8, 10] [10, 300500] [(0, ⟨[(31, .b)], []⟩)] [[.tb]] (.mk [] [0, 0, 2, 7, 15, 31, 31, 127, 255, 31, 1023, 2047]) (.nd)) (.nd))) (.nd)))))) (.sq (.jn [1, 6, 7] [300525, 1000001, 1000003] [(0, ⟨[(57, .b)], []⟩)] [[.tb]] (.nd) (.nd)) (.sq (.sq (.nd) (.lp [6, 7, 58, 59] [300525, 1000001, 1000003] ⟨[(60, .i .i64)], []⟩ [.ti] [(1, ⟨[(4, .c (.slice none 0 0)), (5, .lb false)], []⟩), (4, ⟨[], []⟩)] [[], []] (.nd))) (.nd))))))
theorem e27_1 (k : Nat) (y : Tup h27_1) : EX Tryd.f27 A27_1 h27_1 [1000000, 1000002, 1000004] R27_1 n27_1 [C14_1 k, C32_1 k] k y = F27_1 k y.1 y.2.1 y.2.2.1 y.2.2.2.1 y.2.2.2.2.1 y.2.2.2.2.2.1 y.2.2.2.2.2.2.1 y.2.2.2.2.2.2.2.1 y.2.2.2.2.2.2.2.2.1 y.2.2.2.2.2.2.2.2.2.1 y.2.2.2.2.2.2.2.2.2.2.1 y.2.2.2.2.2.2.2.2.2.2.2.1 y.2.2.2.2.2.2.2.2.2.2.2.2.1 y.2.2.2.2.2.2.2.2.2.2.2.2.2.1 y.2.2.2.2.2.2.2.2.2.2.2.2.2.2 := by kernel_rfl
noncomputable def C27_1 (k : Nat) : Con Tryd.prog := CK 27 Tryd.func27 (e27_1 k)
noncomputable def L21_1_48 (k : Nat) (x5 : t6t) (z22 : (Int × Int)) : Option ((Int × Int) ⊕ Int) :=
cond (decide (z22.2 < (x5.length : Int))) (
(ix x5 z22.2).bind fun a23 =>
some (.inl ((mx z22.1 a23.2.2.2), (IntKind.wrap .i64 (z22.2 + 1))))) (
some (.inr z22.1))
noncomputable def F21_1 (k : Nat) (x1 : Int) (x2 : Int) (x3 : Int) (x4 : Int) (x5 : t6t) (x6 : (List ByteArray)) (x7 : (List ByteArray)) (x8 : Int) (x9 : Int) (x10 : Int) (x11 : Bool) (x12 : Bool) (x13 : Int) (x14 : t4t) (x15 : Int) (x16 : Bool) (x17 : Int) (x18 : Int) (x19 : t3t) (x20 : t4t) (x21 : t5t) : Option t7t :=
cond x12 (
some ((x1 == 7), x8, x9, x10, x11, x12, x13, x14, x15, x16, x17, x18, x19, x20, x21)) (
cond (x1 != 0) (
some ((x1 != 7), x8, x9, x10, x11, x12, x13, x14, x15, x16, x17, x18, x19, x20, x21)) (
(((F27_1 k x5 x8 x9 x10 x11 true x13 x14 x15 x16 x17 x18 x19 x20 x21).bind fun y10 => 
sel (fun y11 =>
some (y11.1, y11.2, ([] : List ByteArray))) (fun y12 =>
some (y12.1, y12.2.1, y12.2.2)) y10 : Option (Bool × t3t × (List ByteArray)))).bind fun y13 => 
cond y13.1 (
(F28 k y13.2.2 y13.2.1).bind fun y14 => 
some (true, x8, x9, x10, x11, true, x13, ([] : List (ByteArray × Bool × ByteArray)), x15, x16, x17, x18, y14, x20, x21)) (
cond ((x14.length : Int) == 0) (
some (false, x8, x9, x10, x11, true, x13, x14, x15, x16, x17, x18, y13.2.1, x20, x21)) (
(loopN (L21_1_48 k x5) k (0, 0)).bind fun y24 => 
((cond (decide (y24 ≤ x15)) (
some (IntKind.wrap .u32 (x15 + 1))) (
some y24) : Option Int)).bind fun y25 => 
none))))
def A21_1 : CTpl := ⟨[.pt 1000000 0, .ag [.i .i64, .i .i64, .i .u32, .i .i64, .fz .u q0q, .fz .u (.str .nil), .fz .u (.str .nil)]], [(1000000, .bx 53 [.i .i64, .i .i64, .i .i64, .b, .pt 1000001 0, .b, .mp 1000002, .i .i64, .fz .u q1q, .i .u32, .b, .i .i64]), (1000001, .bx 59 [.mp 1000003]), (1000002, .bx 3000000 [.i .i64, .pt 1000004 0]), (1000003, .mp ⟨.s, true, q0q⟩), (1000004, .bx 89 [.fz .u q1q, .fz .u q2q])]⟩
def h21_1 : List HTy := [.ti, .ti, .ti, .ti, .tl q0q, .tl (.str .nil), .tl (.str .nil), .ti, .ti, .ti, .tb, .tb, .ti, .tl q1q, .ti, .tb, .ti, .ti, .tm ⟨.s, true, q0q⟩, .tl q1q, .tl q2q]
def R21_1 : List RTpl := [⟨.b, [(1000000, .bx 53 [.i .i64, .i .i64, .i .i64, .b, .pt 1000001 0, .b, .mp 1000002, .i .i64, .fz .u q1q, .i .u32, .b, .i .i64]), (1000001, .bx 59 [.mp 1000003]), (1000002, .bx 3000000 [.i .i64, .pt 1000004 0]), (1000003, .mp ⟨.s, true, q0q⟩), (1000004, .bx 89 [.fz .u q1q, .fz .u q2q])], [.tb, .ti, .ti, .ti, .tb, .tb, .ti, .tl q1q, .ti, .tb, .ti, .ti, .tm ⟨.s, true, q0q⟩, .tl q1q, .tl q2q]⟩]
def n21_1 : An := .sq (.nd) (.sq (.nd) (.sq (.nd) (.sq (.nd) (.sq (.jn [0, 3] [3, 1000000, 1000002, 1000004] [(0, ⟨[(5, .sl .u 301050), (6, .b)], [(1000001, .bx 59 [.mp 1000003]), (1000003, .mp ⟨.s, true, q0q⟩), (301050, .ar 9 (.str .nil))]⟩)] [[.tb, .tm ⟨.s, true, q0q⟩, .tl (.str .nil)]] (.nd) (.sq (.nd) (.sq (.sq (.nd) (.sq (.fr [(5, 301050)]) (.nd))) (.nd)))) (.sq (.nd) (.sq (.nd) (.sq (.sq (.nd) (.lp [0, 3, 52, 53] [3, 1000000, 1000001, 1000002, 1000003, 1000004] ⟨[(7, .i .u32), (54, .i .i64)], []⟩ [.ti, .ti] [(2, ⟨[(7, .i .u32)], []⟩)] [[.ti]] (.nd))) (.jn [0, 3] [3, 1000000, 1000001, 1000002, 1000003, 1000004] [(0, ⟨[(7, .i .u32)], []⟩)] [[.ti]] (.nd) (.nd)))))))))
theorem e21_1 (k : Nat) (y : Tup h21_1) : EX Tryd.f21 A21_1 h21_1 [] R21_1 n21_1 [C27_1 k, C28 k] k y = F21_1 k y.1 y.2.1 y.2.2.1 y.2.2.2.1 y.2.2.2.2.1 y.2.2.2.2.2.1 y.2.2.2.2.2.2.1 y.2.2.2.2.2.2.2.1 y.2.2.2.2.2.2.2.2.1 y.2.2.2.2.2.2.2.2.2.1 y.2.2.2.2.2.2.2.2.2.2.1 y.2.2.2.2.2.2.2.2.2.2.2.1 y.2.2.2.2.2.2.2.2.2.2.2.2.1 y.2.2.2.2.2.2.2.2.2.2.2.2.2.1 y.2.2.2.2.2.2.2.2.2.2.2.2.2.2.1 y.2.2.2.2.2.2.2.2.2.2.2.2.2.2.2.1 y.2.2.2.2.2.2.2.2.2.2.2.2.2.2.2.2.1 y.2.2.2.2.2.2.2.2.2.2.2.2.2.2.2.2.2.1 y.2.2.2.2.2.2.2.2.2.2.2.2.2.2.2.2.2.2.1 y.2.2.2.2.2.2.2.2.2.2.2.2.2.2.2.2.2.2.2.1 y.2.2.2.2.2.2.2.2.2.2.2.2.2.2.2.2.2.2.2.2 := by kernel_rfl
noncomputable def C21_1 (k : Nat) : Con Tryd.prog := CK 21 Tryd.func21 (e21_1 k)
noncomputable def L23_1_16 (k : Nat) (y17 : t6t) (z18 : (Int × Int)) : Option ((Int × Int) ⊕ (Unit ⊕ Int)) :=
cond (decide (z18.2 < (y17.length : Int))) (
(ix y17 z18.2).bind fun a19 =>
(y17[z18.2.toNat]?).bind fun a20 =>
cond (!a20.2.1) (
some (.inr (.inl ()))) (
some (.inl ((mx z18.1 a20.2.2.2), (IntKind.wrap .i64 (z18.2 + 1)))))) (
some (.inr (.inr z18.1)))
noncomputable def L23_1_43 (k : Nat) (y23 : Int) (y42 : (t3t × t6t)) (z43 : Int) : Option (Int ⊕ (Unit ⊕ Unit)) :=
cond (decide (z43 < (y42.2.length : Int))) (
(ix y42.2 z43).bind fun a44 =>
(y42.2[z43.toNat]?).bind fun a45 =>
cond (decide (a45.2.2.2 ≤ y23)) (
some (.inr (.inl ()))) (
some (.inl (IntKind.wrap .i64 (z43 + 1))))) (
some (.inr (.inr ())))
noncomputable def F23_1 (k : Nat) (x1 : (List ByteArray)) (x2 : Int) (x3 : Int) (x4 : Int) (x5 : Bool) (x6 : Bool) (x7 : Int) (x8 : t4t) (x9 : Int) (x10 : Bool) (x11 : Int) (x12 : Int) (x13 : t3t) (x14 : t4t) (x15 : t5t) : Option (Bool × t3t) :=
cond ((x1.length : Int) == 0) (
some (true, x13)) (
(F18 k x1 x13).bind fun y17 => 
(loopN (L23_1_16 k y17) k (0, 0)).bind fun y21 => 
sel (fun y22 =>
some (false, x13)) (fun y23 =>
(F28 k x1 x13).bind fun y25 => 
(F14_1 k x2 x3 x4 x5 x6 x7 x8 x9 x10 x11 x12 y25 x14 x15).bind fun y42 => 
(loopN (L23_1_43 k y23 y42) k 0).bind fun y46 => 
sel (fun y47 =>
some (false, y42.1)) (fun y48 =>
(F32_1 k x2 x3 x4 x5 x6 x7 x8 x9 x10 x11 x12 y42.1 x14 x15).bind fun y49 => 
some (y49, y42.1)) y46) y21)
def A23_1 : CTpl := ⟨[.pt 1000000 0, .fz .u (.str .nil)], [(1000000, .bx 53 [.i .i64, .i .i64, .i .i64, .b, .pt 1000001 0, .b, .mp 1000002, .i .i64, .fz .u q1q, .i .u32, .b, .i .i64]), (1000001, .bx 59 [.mp 1000003]), (1000002, .bx 3000000 [.i .i64, .pt 1000004 0]), (1000003, .mp ⟨.s, true, q0q⟩), (1000004, .bx 89 [.fz .u q1q, .fz .u q2q])]⟩
def h23_1 : List HTy := [.tl (.str .nil), .ti, .ti, .ti, .tb, .tb, .ti, .tl q1q, .ti, .tb, .ti, .ti, .tm ⟨.s, true, q0q⟩, .tl q1q, .tl q2q]
def R23_1 : List RTpl := [⟨.b, [(1000001, .bx 59 [.mp 1000003]), (1000003, .mp ⟨.s, true, q0q⟩)], [.tb, .tm ⟨.s, true, q0q⟩]⟩]
def n23_1 : An := .sq (.nd) (.sq (.nd) (.sq (.nd) (.sq (.sq (.nd) (.lp [0, 1, 18, 19] [401800, 1000001, 1000003] ⟨[(5, .i .u32), (20, .i .i64)], []⟩ [.ti, .ti] [(1, ⟨[(4, .lb false)], []⟩), (2, ⟨[(5, .i .u32)], []⟩)] [[], [.ti]] (.nd))) (.sq (.nd) (.sq (.sq (.nd) (.lp [0, 5, 39, 40] [403900, 1000001, 1000003] ⟨[(41, .i .i64)], []⟩ [.ti] [(1, ⟨[(4, .lb false)], []⟩), (4, ⟨[], []⟩)] [[], []] (.nd))) (.nd))))))
theorem e23_1 (k : Nat) (y : Tup h23_1) : EX Tryd.f23 A23_1 h23_1 [1000000, 1000002, 1000004] R23_1 n23_1 [C18 k, C28 k, C14_1 k, C32_1 k] k y = F23_1 k y.1 y.2.1 y.2.2.1 y.2.2.2.1 y.2.2.2.2.1 y.2.2.2.2.2.1 y.2.2.2.2.2.2.1 y.2.2.2.2.2.2.2.1 y.2.2.2.2.2.2.2.2.1 y.2.2.2.2.2.2.2.2.2.1 y.2.2.2.2.2.2.2.2.2.2.1 y.2.2.2.2.2.2.2.2.2.2.2.1 y.2.2.2.2.2.2.2.2.2.2.2.2.1 y.2.2.2.2.2.2.2.2.2.2.2.2.2.1 y.2.2.2.2.2.2.2.2.2.2.2.2.2.2 := by kernel_rfl
noncomputable def C23_1 (k : Nat) : Con Tryd.prog := CK 23 Tryd.func23 (e23_1 k)
noncomputable def F25_1 (k : Nat) (x1 : Int) (x2 : Int) (x3 : ByteArray) (x4 : ByteArray) (x5 : (List ByteArray)) (x6 : Int) (x7 : (List Int)) (x8 : Int) (x9 : Int) (x10 : Int) (x11 : Int) (x12 : Int) (x13 : Int) (x14 : Int) (x15 : t6t) (x16 : (List ByteArray)) (x17 : (List ByteArray)) (x18 : Int) (x19 : Int) (x20 : Int) (x21 : Bool) (x22 : Bool) (x23 : Int) (x24 : t4t) (x25 : Int) (x26 : Bool) (x27 : Int) (x28 : Int) (x29 : t3t) (x30 : t4t) (x31 : t5t) : Option ((Bool × Int × Int × Int × Bool × Bool × Int × t4t × Int × Bool × Int × Int × t3t) ⊕ t7t ⊕ (Bool × Int × Int × Int × Bool × Bool × Int × t4t × Int × Bool × Int × Int × Int × t3t × t4t × t5t)) :=
cond (x1 == 1) (
cond (x11 != 0) (
some (.inl (true, x18, x19, x20, x21, x22, x23, x24, x25, x26, x27, x28, x29))) (
(((F37 k).bind fun y7 => 
cond (x28 == (IntKind.wrap .i64 (x23 + 1))) (
some (.inl ((IntKind.wrap .i64 (x23 + 1)), y7.1, y7.2))) (
some (.inr (x28, (IntKind.wrap .i64 (x23 + 1)), y7.1, y7.2))) : Option ((Int × t4t × t5t) ⊕ (Int × Int × t4t × t5t)))).bind fun y8 => 
sel (fun y9 =>
some (.inr (.inl ((x12 == (IntKind.wrap .i64 (x23 + 1))), x18, x19, x20, x21, x22, (IntKind.wrap .i64 (x23 + 1)), x24, x25, x26, x27, y9.1, x29, y9.2.1, y9.2.2)))) (fun y10 =>
some (.inr (.inr ((x12 == (IntKind.wrap .i64 (x23 + 1))), x18, x19, x20, x21, x22, (IntKind.wrap .i64 (x23 + 1)), x24, x25, x26, x27, y10.1, y10.2.1, x29, y10.2.2.1, y10.2.2.2)))) y8)) (
cond (x1 == 8) (
cond (x11 != 0) (
some (.inl (true, x18, x19, x20, x21, x22, x23, x24, x25, x26, x27, x28, x29))) (
none)) (
((cond (x1 == 9) (
some (x11 == 0)) (
some false) : Option Bool)).bind fun y11 => 
cond y11 (
none) (
(F23_1 k x17 x18 x19 x20 x21 x22 x23 x24 x25 x26 x27 x28 x29 x30 x31).bind fun y12 => 
some (.inl (y12.1, x18, x19, x20, x21, x22, x23, x24, x25, x26, x27, x28, y12.2)))))
def A25_1 : CTpl := ⟨[.pt 1000000 0, .ag [.i .i64, .i .i64, .s, .s, .fz .u (.str .nil), .i .i64, .fz .u (.int .i64 .nil), .i .i64, .i .i64, .i .i64], .ag [.i .i64, .i .i64, .i .u32, .i .i64, .fz .u q0q, .fz .u (.str .nil), .fz .u (.str .nil)]], [(1000000, .bx 53 [.i .i64, .i .i64, .i .i64, .b, .pt 1000001 0, .b, .mp 1000002, .i .i64, .fz .u q1q, .i .u32, .b, .i .i64]), (1000001, .bx 59 [.mp 1000003]), (1000002, .bx 3000000 [.i .i64, .pt 1000004 0]), (1000003, .mp ⟨.s, true, q0q⟩), (1000004, .bx 89 [.fz .u q1q, .fz .u q2q])]⟩
def h25_1 : List HTy := [.ti, .ti, .ts, .ts, .tl (.str .nil), .ti, .tl (.int .i64 .nil), .ti, .ti, .ti, .ti, .ti, .ti, .ti, .tl q0q, .tl (.str .nil), .tl (.str .nil), .ti, .ti, .ti, .tb, .tb, .ti, .tl q1q, .ti, .tb, .ti, .ti, .tm ⟨.s, true, q0q⟩, .tl q1q, .tl q2q]
def R25_1 : List RTpl := [⟨.b, [(1000000, .bx 53 [.i .i64, .i .i64, .i .i64, .b, .pt 1000001 0, .b, .mp 1000002, .i .i64, .fz .u q1q, .i .u32, .b, .i .i64]), (1000001, .bx 59 [.mp 1000003]), (1000002, .bx 3000000 [.i .i64, .pt 1000004 0]), (1000003, .mp ⟨.s, true, q0q⟩)], [.tb, .ti, .ti, .ti, .tb, .tb, .ti, .tl q1q, .ti, .tb, .ti, .ti, .tm ⟨.s, true, q0q⟩]⟩, ⟨.b, [(1000000, .bx 53 [.i .i64, .i .i64, .i .i64, .b, .pt 1000001 0, .b, .mp 1000002, .i .i64, .fz .u q1q, .i .u32, .b, .i .i64]), (1000001, .bx 59 [.mp 1000003]), (1000002, .bx 3000000 [.i .i64, .pt 500000 0]), (1000003, .mp ⟨.s, true, q0q⟩), (500000, .bx 89 [.fz .u q1q, .fz .u q2q])], [.tb, .ti, .ti, .ti, .tb, .tb, .ti, .tl q1q, .ti, .tb, .ti, .ti, .tm ⟨.s, true, q0q⟩, .tl q1q, .tl q2q]⟩, ⟨.b, [(1000000, .bx 53 [.i .i64, .i .i64, .i .i64, .b, .pt 1000001 0, .b, .mp 1000002, .i .i64, .fz .u q1q, .i .u32, .b, .i .i64]), (1000001, .bx 59 [.mp 1000003]), (1000002, .bx 3000000 [.i .i64, .pt 1000004 0, .i .i64, .pt 500000 0]), (1000003, .mp ⟨.s, true, q0q⟩), (500000, .bx 89 [.fz .u q1q, .fz .u q2q])], [.tb, .ti, .ti, .ti, .tb, .tb, .ti, .tl q1q, .ti, .tb, .ti, .ti, .ti, .tm ⟨.s, true, q0q⟩, .tl q1q, .tl q2q]⟩]
def n25_1 : An := .sq (.nd) (.sq (.sq (.nd) (.sq (.sq (.nd) (.sq (.nd) (.jn [0, 5] [5, 1000000, 1000001, 1000003] [(0, ⟨[], [(1000002, .bx 3000000 [.i .i64, .pt 300850 0]), (300850, .bx 89 [.fz .u q1q, .fz .u q2q])]⟩), (0, ⟨[], [(1000002, .bx 3000000 [.i .i64, .pt 1000004 0, .i .i64, .pt 300860 0]), (300860, .bx 89 [.fz .u q1q, .fz .u q2q])]⟩)] [[.ti, .tl q1q, .tl q2q], [.ti, .ti, .tl q1q, .tl q2q]] (.mk [] [0, 1, 3, 7, 0, 16, 48, 112, 0, 511]) (.sq (.mk [] [0, 1, 0, 4, 12, 28, 63, 127]) (.nd))))) (.sq (.nd) (.sq (.sq (.mk [] [0, 1, 3, 7, 15, 31, 15, 15, 143, 463, 1023, 2047, 4095]) (.nd)) (.jn [0, 4, 5] [4, 5, 1000000, 1000001, 1000002, 1000003] [(0, ⟨[(54, .b)], []⟩)] [[.tb]] (.nd) (.nd)))))) (.nd))
theorem e25_1 (k : Nat) (y : Tup h25_1) : EX Tryd.f25 A25_1 h25_1 [1000004] R25_1 n25_1 [C37 k, C23_1 k] k y = F25_1 k y.1 y.2.1 y.2.2.1 y.2.2.2.1 y.2.2.2.2.1 y.2.2.2.2.2.1 y.2.2.2.2.2.2.1 y.2.2.2.2.2.2.2.1 y.2.2.2.2.2.2.2.2.1 y.2.2.2.2.2.2.2.2.2.1 y.2.2.2.2.2.2.2.2.2.2.1 y.2.2.2.2.2.2.2.2.2.2.2.1 y.2.2.2.2.2.2.2.2.2.2.2.2.1 y.2.2.2.2.2.2.2.2.2.2.2.2.2.1 y.2.2.2.2.2.2.2.2.2.2.2.2.2.2.1 y.2.2.2.2.2.2.2.2.2.2.2.2.2.2.2.1 y.2.2.2.2.2.2.2.2.2.2.2.2.2.2.2.2.1 y.2.2.2.2.2.2.2.2.2.2.2.2.2.2.2.2.2.1 y.2.2.2.2.2.2.2.2.2.2.2.2.2.2.2.2.2.2.1 y.2.2.2.2.2.2.2.2.2.2.2.2.2.2.2.2.2.2.2.1 y.2.2.2.2.2.2.2.2.2.2.2.2.2.2.2.2.2.2.2.2.1 y.2.2.2.2.2.2.2.2.2.2.2.2.2.2.2.2.2.2.2.2.2.1 y.2.2.2.2.2.2.2.2.2.2.2.2.2.2.2.2.2.2.2.2.2.2.1 y.2.2.2.2.2.2.2.2.2.2.2.2.2.2.2.2.2.2.2.2.2.2.2.1 y.2.2.2.2.2.2.2.2.2.2.2.2.2.2.2.2.2.2.2.2.2.2.2.2.1 y.2.2.2.2.2.2.2.2.2.2.2.2.2.2.2.2.2.2.2.2.2.2.2.2.2.1 y.2.2.2.2.2.2.2.2.2.2.2.2.2.2.2.2.2.2.2.2.2.2.2.2.2.2.1 y.2.2.2.2.2.2.2.2.2.2.2.2.2.2.2.2.2.2.2.2.2.2.2.2.2.2.2.1 y.2.2.2.2.2.2.2.2.2.2.2.2.2.2.2.2.2.2.2.2.2.2.2.2.2.2.2.2.1 y.2.2.2.2.2.2.2.2.2.2.2.2.2.2.2.2.2.2.2.2.2.2.2.2.2.2.2.2.2.1 y.2.2.2.2.2.2.2.2.2.2.2.2.2.2.2.2.2.2.2.2.2.2.2.2.2.2.2.2.2.2 := by kernel_rfl
noncomputable def C25_1 (k : Nat) : Con Tryd.prog := CK 25 Tryd.func25 (e25_1 k)
noncomputable def F17_1 (k : Nat) (x1 : Int) (x2 : Int) (x3 : ByteArray) (x4 : ByteArray) (x5 : (List ByteArray)) (x6 : Int) (x7 : (List Int)) (x8 : Int) (x9 : Int) (x10 : Int) (x11 : Int) (x12 : Int) (x13 : Int) (x14 : Int) (x15 : t6t) (x16 : (List ByteArray)) (x17 : (List ByteArray)) (x18 : Int) (x19 : Int) (x20 : Int) (x21 : Bool) (x22 : Bool) (x23 : Int) (x24 : t4t) (x25 : Int) (x26 : Bool) (x27 : Int) (x28 : Int) (x29 : t3t) (x30 : t4t) (x31 : t5t) : Option (t7t ⊕ t7t ⊕ (Bool × Int × Int × Int × Bool × Bool × Int × t4t × Int × Bool × Int × Int × t3t × t4t × t5t × t4t × t5t) ⊕ t8t) :=
((cond (x1 == 11) (
some true) (
cond (x1 == 12) (
some true) (
some (x1 == 13))) : Option Bool)).bind fun y9 => 
cond y9 (
((cond (x1 == 12) (
(F20_1 k x18 x19 x20 x21 x22 x23 x24 x25 true x27 x28 x29 x30 x31).bind fun y10 => 
some (.inl (y10.1, y10.2.1, y10.2.2.1, y10.2.2.2.1, y10.2.2.2.2.1, y10.2.2.2.2.2.1, y10.2.2.2.2.2.2.1, y10.2.2.2.2.2.2.2.1, y10.2.2.2.2.2.2.2.2.1, y10.2.2.2.2.2.2.2.2.2))) (
some (.inr (x18, x19, x20, x21, x22, x23, x24, x25, x27))) : Option (t10t ⊕ (Int × Int × Int × Bool × Bool × Int × t4t × Int × Int)))).bind fun y11 => 
sel (fun y12 =>
some (.inl (true, y12.1, y12.2.1, y12.2.2.1, y12.2.2.2.1, y12.2.2.2.2.1, y12.2.2.2.2.2.1, y12.2.2.2.2.2.2.1, y12.2.2.2.2.2.2.2.1, y12.2.2.2.2.2.2.2.2.1, y12.2.2.2.2.2.2.2.2.2, x28, x29, x30, x31))) (fun y13 =>
some (.inr (.inl (true, y13.1, y13.2.1, y13.2.2.1, y13.2.2.2.1, y13.2.2.2.2.1, y13.2.2.2.2.2.1, y13.2.2.2.2.2.2.1, y13.2.2.2.2.2.2.2.1, true, y13.2.2.2.2.2.2.2.2, x28, x29, x30, x31)))) y11) (
cond (x1 == 14) (
(F21_1 k x11 x12 x13 x14 x15 x16 x17 x18 x19 x20 x21 x22 x23 x24 x25 x26 x27 x28 x29 x30 x31).bind fun y14 => 
some (.inr (.inl (y14.1, y14.2.1, y14.2.2.1, y14.2.2.2.1, y14.2.2.2.2.1, y14.2.2.2.2.2.1, y14.2.2.2.2.2.2.1, y14.2.2.2.2.2.2.2.1, y14.2.2.2.2.2.2.2.2.1, y14.2.2.2.2.2.2.2.2.2.1, y14.2.2.2.2.2.2.2.2.2.2.1, y14.2.2.2.2.2.2.2.2.2.2.2.1, y14.2.2.2.2.2.2.2.2.2.2.2.2.1, y14.2.2.2.2.2.2.2.2.2.2.2.2.2.1, y14.2.2.2.2.2.2.2.2.2.2.2.2.2.2)))) (
((cond (decide (x1 < 1)) (
some true) (
some (decide (14 < x1))) : Option Bool)).bind fun y15 => 
cond y15 (
some (.inr (.inl ((x11 == 1), x18, x19, x20, x21, x22, x23, x24, x25, x26, x27, x28, x29, x30, x31)))) (
cond (!x22) (
some (.inr (.inl ((x11 == 6), x18, x19, x20, x21, x22, x23, x24, x25, x26, x27, x28, x29, x30, x31)))) (
((cond x26 (
some (x18, x19, x20, x21, x22, x23, x24, x25, true, x27)) (
some (x18, x19, x20, x21, x22, x23, x24, x25, (x1 == 7), x27)) : Option t10t)).bind fun y16 => 
((cond (x11 == 6) (
some true) (
some (x11 == 7)) : Option Bool)).bind fun y18 => 
cond y18 (
none) (
((cond (x1 == 2) (
some (x1 == 2)) (
cond (x1 == 3) (
some (x1 == 3)) (
cond (x1 == 4) (
some (x1 == 4)) (
cond (x1 == 5) (
some (x1 == 5)) (
some (x1 == 6))))) : Option Bool)).bind fun y20 => 
cond y20 (
cond (x28 == x2) (
cond (x11 != 9) (
none) (
some (.inr (.inl (false, y16.1, y16.2.1, y16.2.2.1, y16.2.2.2.1, y16.2.2.2.2.1, y16.2.2.2.2.2.1, y16.2.2.2.2.2.2.1, y16.2.2.2.2.2.2.2.1, y16.2.2.2.2.2.2.2.2.1, y16.2.2.2.2.2.2.2.2.2, x28, x29, x30, x31))))) (
some (.inr (.inl ((x11 == 9), y16.1, y16.2.1, y16.2.2.1, y16.2.2.2.1, y16.2.2.2.2.1, y16.2.2.2.2.2.1, y16.2.2.2.2.2.2.1, y16.2.2.2.2.2.2.2.1, y16.2.2.2.2.2.2.2.2.1, y16.2.2.2.2.2.2.2.2.2, x28, x29, x30, x31))))) (
(F25_1 k x1 x2 x3 x4 x5 x6 x7 x8 x9 x10 x11 x12 x13 x14 x15 x16 x17 y16.1 y16.2.1 y16.2.2.1 y16.2.2.2.1 y16.2.2.2.2.1 y16.2.2.2.2.2.1 y16.2.2.2.2.2.2.1 y16.2.2.2.2.2.2.2.1 y16.2.2.2.2.2.2.2.2.1 y16.2.2.2.2.2.2.2.2.2 x28 x29 x30 x31).bind fun y21 => 
sel (fun y22 =>
some (.inr (.inl (y22.1, y22.2.1, y22.2.2.1, y22.2.2.2.1, y22.2.2.2.2.1, y22.2.2.2.2.2.1, y22.2.2.2.2.2.2.1, y22.2.2.2.2.2.2.2.1, y22.2.2.2.2.2.2.2.2.1, y22.2.2.2.2.2.2.2.2.2.1, y22.2.2.2.2.2.2.2.2.2.2.1, y22.2.2.2.2.2.2.2.2.2.2.2.1, y22.2.2.2.2.2.2.2.2.2.2.2.2, x30, x31)))) (fun y23 =>
sel (fun y24 =>
some (.inr (.inr (.inl (y24.1, y24.2.1, y24.2.2.1, y24.2.2.2.1, y24.2.2.2.2.1, y24.2.2.2.2.2.1, y24.2.2.2.2.2.2.1, y24.2.2.2.2.2.2.2.1, y24.2.2.2.2.2.2.2.2.1, y24.2.2.2.2.2.2.2.2.2.1, y24.2.2.2.2.2.2.2.2.2.2.1, y24.2.2.2.2.2.2.2.2.2.2.2.1, y24.2.2.2.2.2.2.2.2.2.2.2.2.1, x30, x31, y24.2.2.2.2.2.2.2.2.2.2.2.2.2.1, y24.2.2.2.2.2.2.2.2.2.2.2.2.2.2))))) (fun y25 =>
some (.inr (.inr (.inr (y25.1, y25.2.1, y25.2.2.1, y25.2.2.2.1, y25.2.2.2.2.1, y25.2.2.2.2.2.1, y25.2.2.2.2.2.2.1, y25.2.2.2.2.2.2.2.1, y25.2.2.2.2.2.2.2.2.1, y25.2.2.2.2.2.2.2.2.2.1, y25.2.2.2.2.2.2.2.2.2.2.1, y25.2.2.2.2.2.2.2.2.2.2.2.1, y25.2.2.2.2.2.2.2.2.2.2.2.2.1, y25.2.2.2.2.2.2.2.2.2.2.2.2.2.1, x30, x31, y25.2.2.2.2.2.2.2.2.2.2.2.2.2.2.1, y25.2.2.2.2.2.2.2.2.2.2.2.2.2.2.2))))) y23) y21))))))
def A17_1 : CTpl := ⟨[.pt 1000000 0, .ag [.i .i64, .i .i64, .s, .s, .fz .u (.str .nil), .i .i64, .fz .u (.int .i64 .nil), .i .i64, .i .i64, .i .i64], .ag [.i .i64, .i .i64, .i .u32, .i .i64, .fz .u q0q, .fz .u (.str .nil), .fz .u (.str .nil)]], [(1000000, .bx 53 [.i .i64, .i .i64, .i .i64, .b, .pt 1000001 0, .b, .mp 1000002, .i .i64, .fz .u q1q, .i .u32, .b, .i .i64]), (1000001, .bx 59 [.mp 1000003]), (1000002, .bx 3000000 [.i .i64, .pt 1000004 0]), (1000003, .mp ⟨.s, true, q0q⟩), (1000004, .bx 89 [.fz .u q1q, .fz .u q2q])]⟩
def h17_1 : List HTy := [.ti, .ti, .ts, .ts, .tl (.str .nil), .ti, .tl (.int .i64 .nil), .ti, .ti, .ti, .ti, .ti, .ti, .ti, .tl q0q, .tl (.str .nil), .tl (.str .nil), .ti, .ti, .ti, .tb, .tb, .ti, .tl q1q, .ti, .tb, .ti, .ti, .tm ⟨.s, true, q0q⟩, .tl q1q, .tl q2q]
def R17_1 : List RTpl := [⟨.b, [(1000000, .bx 53 [.i .i64, .i .i64, .i .i64, .b, .pt 1000001 0, .b, .mp 500000, .i .i64, .fz .u q1q, .i .u32, .b, .i .i64]), (1000001, .bx 59 [.mp 1000003]), (1000002, .bx 3000000 [.i .i64, .pt 1000004 0]), (1000003, .mp ⟨.s, true, q0q⟩), (1000004, .bx 89 [.fz .u q1q, .fz .u q2q]), (500000, .bx 3000000 [])], [.tb, .ti, .ti, .ti, .tb, .tb, .ti, .tl q1q, .ti, .tb, .ti, .ti, .tm ⟨.s, true, q0q⟩, .tl q1q, .tl q2q]⟩, ⟨.b, [(1000000, .bx 53 [.i .i64, .i .i64, .i .i64, .b, .pt 1000001 0, .b, .mp 1000002, .i .i64, .fz .u q1q, .i .u32, .b, .i .i64]), (1000001, .bx 59 [.mp 1000003]), (1000002, .bx 3000000 [.i .i64, .pt 1000004 0]), (1000003, .mp ⟨.s, true, q0q⟩), (1000004, .bx 89 [.fz .u q1q, .fz .u q2q])], [.tb, .ti, .ti, .ti, .tb, .tb, .ti, .tl q1q, .ti, .tb, .ti, .ti, .tm ⟨.s, true, q0q⟩, .tl q1q, .tl q2q]⟩, ⟨.b, [(1000000, .bx 53 [.i .i64, .i .i64, .i .i64, .b, .pt 1000001 0, .b, .mp 1000002, .i .i64, .fz .u q1q, .i .u32, .b, .i .i64]), (1000001, .bx 59 [.mp 1000003]), (1000002, .bx 3000000 [.i .i64, .pt 500000 0]), (1000003, .mp ⟨.s, true, q0q⟩), (1000004, .bx 89 [.fz .u q1q, .fz .u q2q]), (500000, .bx 89 [.fz .u q1q, .fz .u q2q])], [.tb, .ti, .ti, .ti, .tb, .tb, .ti, .tl q1q, .ti, .tb, .ti, .ti, .tm ⟨.s, true, q0q⟩, .tl q1q, .tl q2q, .tl q1q, .tl q2q]⟩, ⟨.b, [(1000000, .bx 53 [.i .i64, .i .i64, .i .i64, .b, .pt 1000001 0, .b, .mp 1000002, .i .i64, .fz .u q1q, .i .u32, .b, .i .i64]), (1000001, .bx 59 [.mp 1000003]), (1000002, .bx 3000000 [.i .i64, .pt 1000004 0, .i .i64, .pt 500000 0]), (1000003, .mp ⟨.s, true, q0q⟩), (1000004, .bx 89 [.fz .u q1q, .fz .u q2q]), (500000, .bx 89 [.fz .u q1q, .fz .u q2q])], [.tb, .ti, .ti, .ti, .tb, .tb, .ti, .tl q1q, .ti, .tb, .ti, .ti, .ti, .tm ⟨.s, true, q0q⟩, .tl q1q, .tl q2q, .tl q1q, .tl q2q]⟩]
def n17_1 : An := .sq (.nd) (.sq (.jn [0, 4, 5] [4, 5, 1000000, 1000001, 1000002, 1000003, 1000004] [(0, ⟨[(10, .b)], []⟩)] [[.tb]] (.nd) (.sq (.sq (.nd) (.jn [] [1000001, 1000002, 1000003, 1000004] [(0, ⟨[], [(1000000, .bx 53 [.i .i64, .i .i64, .i .i64, .b, .pt 1000001 0, .b, .mp 300450, .i .i64, .fz .u q1q, .i .u32, .b, .i .i64]), (300450, .bx 3000000 [])]⟩), (0, ⟨[], [(1000000, .bx 53 [.i .i64, .i .i64, .i .i64, .b, .pt 1000001 0, .b, .mp 1000002, .i .i64, .fz .u q1q, .i .u32, .lb true, .i .i64])]⟩)] [[.ti, .ti, .ti, .tb, .tb, .ti, .tl q1q, .ti, .tb, .ti], [.ti, .ti, .ti, .tb, .tb, .ti, .tl q1q, .ti, .ti]] (.nd) (.nd))) (.sq (.nd) (.sq (.nd) (.jn [0, 4, 5] [4, 5, 1000000, 1000001, 1000002, 1000003, 1000004] [(0, ⟨[(39, .b)], []⟩)] [[.tb]] (.nd) (.nd)))))) (.jn [0, 4, 5] [4, 5, 1000001, 1000002, 1000003, 1000004] [(0, ⟨[], [(1000000, .bx 53 [.i .i64, .i .i64, .i .i64, .b, .pt 1000001 0, .b, .mp 1000002, .i .i64, .fz .u q1q, .i .u32, .b, .i .i64])]⟩)] [[.ti, .ti, .ti, .tb, .tb, .ti, .tl q1q, .ti, .tb, .ti]] (.nd) (.sq (.jn [0, 4, 5] [4, 5, 1000000, 1000001, 1000002, 1000003, 1000004] [(0, ⟨[(79, .b)], []⟩)] [[.tb]] (.nd) (.nd)) (.sq (.sq (.nd) (.jn [0, 4, 5] [4, 5, 1000000, 1000001, 1000002, 1000003, 1000004] [(0, ⟨[(95, .b)], []⟩)] [[.tb]] (.nd) (.sq (.sq (.mk [] [0, 1, 3, 7, 0, 16, 63, 127, 255, 255, 511, 2047]) (.nd)) (.nd)))) (.nd)))))
theorem e17_1 (k : Nat) (y : Tup h17_1) : EX Tryd.f17 A17_1 h17_1 [] R17_1 n17_1 [C20_1 k, C21_1 k, C25_1 k] k y = F17_1 k y.1 y.2.1 y.2.2.1 y.2.2.2.1 y.2.2.2.2.1 y.2.2.2.2.2.1 y.2.2.2.2.2.2.1 y.2.2.2.2.2.2.2.1 y.2.2.2.2.2.2.2.2.1 y.2.2.2.2.2.2.2.2.2.1 y.2.2.2.2.2.2.2.2.2.2.1 y.2.2.2.2.2.2.2.2.2.2.2.1 y.2.2.2.2.2.2.2.2.2.2.2.2.1 y.2.2.2.2.2.2.2.2.2.2.2.2.2.1 y.2.2.2.2.2.2.2.2.2.2.2.2.2.2.1 y.2.2.2.2.2.2.2.2.2.2.2.2.2.2.2.1 y.2.2.2.2.2.2.2.2.2.2.2.2.2.2.2.2.1 y.2.2.2.2.2.2.2.2.2.2.2.2.2.2.2.2.2.1 y.2.2.2.2.2.2.2.2.2.2.2.2.2.2.2.2.2.2.1 y.2.2.2.2.2.2.2.2.2.2.2.2.2.2.2.2.2.2.2.1 y.2.2.2.2.2.2.2.2.2.2.2.2.2.2.2.2.2.2.2.2.1 y.2.2.2.2.2.2.2.2.2.2.2.2.2.2.2.2.2.2.2.2.2.1 y.2.2.2.2.2.2.2.2.2.2.2.2.2.2.2.2.2.2.2.2.2.2.1 y.2.2.2.2.2.2.2.2.2.2.2.2.2.2.2.2.2.2.2.2.2.2.2.1 y.2.2.2.2.2.2.2.2.2.2.2.2.2.2.2.2.2.2.2.2.2.2.2.2.1 y.2.2.2.2.2.2.2.2.2.2.2.2.2.2.2.2.2.2.2.2.2.2.2.2.2.1 y.2.2.2.2.2.2.2.2.2.2.2.2.2.2.2.2.2.2.2.2.2.2.2.2.2.2.1 y.2.2.2.2.2.2.2.2.2.2.2.2.2.2.2.2.2.2.2.2.2.2.2.2.2.2.2.1 y.2.2.2.2.2.2.2.2.2.2.2.2.2.2.2.2.2.2.2.2.2.2.2.2.2.2.2.2.1 y.2.2.2.2.2.2.2.2.2.2.2.2.2.2.2.2.2.2.2.2.2.2.2.2.2.2.2.2.2.1 y.2.2.2.2.2.2.2.2.2.2.2.2.2.2.2.2.2.2.2.2.2.2.2.2.2.2.2.2.2.2 := by kernel_rfl
noncomputable def C17_1 (k : Nat) : Con Tryd.prog := CK 17 Tryd.func17 (e17_1 k)
noncomputable def F10_1 (k : Nat) (x1 : Int) (x2 : Int) (x3 : ByteArray) (x4 : ByteArray) (x5 : (List ByteArray)) (x6 : Int) (x7 : (List Int)) (x8 : Int) (x9 : Int) (x10 : Int) (x11 : Int) (x12 : Int) (x13 : Int) (x14 : Int) (x15 : t6t) (x16 : (List ByteArray)) (x17 : (List ByteArray)) (x18 : Int) (x19 : Int) (x20 : Int) (x21 : Bool) (x22 : Bool) (x23 : Int) (x24 : t4t) (x25 : Int) (x26 : Bool) (x27 : Int) (x28 : Int) (x29 : t3t) (x30 : t4t) (x31 : t5t) : Option (t7t ⊕ t7t ⊕ (Bool × Int × Int × Int × Bool × Bool × Int × t4t × Int × Bool × Int × Int × t3t × t4t × t5t × t4t × t5t) ⊕ t8t) :=
cond x21 (
some (.inl (false, x18, x19, x20, x21, x22, x23, x24, x25, x26, x27, x28, x29, x30, x31))) (
(((F17_1 k x1 x2 x3 x4 x5 x6 x7 x8 x9 x10 x11 x12 x13 x14 x15 x16 x17 x18 x19 x20 x21 x22 x23 x24 x25 x26 x27 x28 x29 x30 x31).bind fun y8 => 
sel (fun y9 =>
some (.inl (y9.2.1, y9.2.2.1, y9.2.2.2.1, (!y9.1), y9.2.2.2.2.2.1, y9.2.2.2.2.2.2.1, y9.2.2.2.2.2.2.2.1, y9.2.2.2.2.2.2.2.2.1, y9.2.2.2.2.2.2.2.2.2.1, y9.2.2.2.2.2.2.2.2.2.2.1, y9.2.2.2.2.2.2.2.2.2.2.2.1, y9.2.2.2.2.2.2.2.2.2.2.2.2.1, y9.2.2.2.2.2.2.2.2.2.2.2.2.2.1, y9.2.2.2.2.2.2.2.2.2.2.2.2.2.2))) (fun y10 =>
sel (fun y11 =>
some (.inr (.inl (y11.2.1, y11.2.2.1, y11.2.2.2.1, (!y11.1), y11.2.2.2.2.2.1, y11.2.2.2.2.2.2.1, y11.2.2.2.2.2.2.2.1, y11.2.2.2.2.2.2.2.2.1, y11.2.2.2.2.2.2.2.2.2.1, y11.2.2.2.2.2.2.2.2.2.2.1, y11.2.2.2.2.2.2.2.2.2.2.2.1, y11.2.2.2.2.2.2.2.2.2.2.2.2.1, y11.2.2.2.2.2.2.2.2.2.2.2.2.2.1, y11.2.2.2.2.2.2.2.2.2.2.2.2.2.2)))) (fun y12 =>
sel (fun y13 =>
some (.inr (.inr (.inl (y13.2.1, y13.2.2.1, y13.2.2.2.1, (!y13.1), y13.2.2.2.2.2.1, y13.2.2.2.2.2.2.1, y13.2.2.2.2.2.2.2.1, y13.2.2.2.2.2.2.2.2.1, y13.2.2.2.2.2.2.2.2.2.1, y13.2.2.2.2.2.2.2.2.2.2.1, y13.2.2.2.2.2.2.2.2.2.2.2.1, y13.2.2.2.2.2.2.2.2.2.2.2.2.1, y13.2.2.2.2.2.2.2.2.2.2.2.2.2.1, y13.2.2.2.2.2.2.2.2.2.2.2.2.2.2.1, y13.2.2.2.2.2.2.2.2.2.2.2.2.2.2.2.1, y13.2.2.2.2.2.2.2.2.2.2.2.2.2.2.2.2))))) (fun y14 =>
some (.inr (.inr (.inr (y14.2.1, y14.2.2.1, y14.2.2.2.1, (!y14.1), y14.2.2.2.2.2.1, y14.2.2.2.2.2.2.1, y14.2.2.2.2.2.2.2.1, y14.2.2.2.2.2.2.2.2.1, y14.2.2.2.2.2.2.2.2.2.1, y14.2.2.2.2.2.2.2.2.2.2.1, y14.2.2.2.2.2.2.2.2.2.2.2.1, y14.2.2.2.2.2.2.2.2.2.2.2.2.1, y14.2.2.2.2.2.2.2.2.2.2.2.2.2.1, y14.2.2.2.2.2.2.2.2.2.2.2.2.2.2.1, y14.2.2.2.2.2.2.2.2.2.2.2.2.2.2.2.1, y14.2.2.2.2.2.2.2.2.2.2.2.2.2.2.2.2.1, y14.2.2.2.2.2.2.2.2.2.2.2.2.2.2.2.2.2))))) y12) y10) y8 : Option ((Int × Int × Int × Bool × Bool × Int × t4t × Int × Bool × Int × Int × t3t × t4t × t5t) ⊕ (Int × Int × Int × Bool × Bool × Int × t4t × Int × Bool × Int × Int × t3t × t4t × t5t) ⊕ (Int × Int × Int × Bool × Bool × Int × t4t × Int × Bool × Int × Int × t3t × t4t × t5t × t4t × t5t) ⊕ (Int × Int × Int × Bool × Bool × Int × t4t × Int × Bool × Int × Int × Int × t3t × t4t × t5t × t4t × t5t)))).bind fun y15 => 
sel (fun y16 =>
some (.inr (.inl ((!y16.2.2.2.1), y16.1, y16.2.1, y16.2.2.1, y16.2.2.2.1, y16.2.2.2.2.1, y16.2.2.2.2.2.1, y16.2.2.2.2.2.2.1, y16.2.2.2.2.2.2.2.1, y16.2.2.2.2.2.2.2.2.1, y16.2.2.2.2.2.2.2.2.2.1, y16.2.2.2.2.2.2.2.2.2.2.1, y16.2.2.2.2.2.2.2.2.2.2.2.1, y16.2.2.2.2.2.2.2.2.2.2.2.2.1, y16.2.2.2.2.2.2.2.2.2.2.2.2.2)))) (fun y17 =>
sel (fun y18 =>
some (.inl ((!y18.2.2.2.1), y18.1, y18.2.1, y18.2.2.1, y18.2.2.2.1, y18.2.2.2.2.1, y18.2.2.2.2.2.1, y18.2.2.2.2.2.2.1, y18.2.2.2.2.2.2.2.1, y18.2.2.2.2.2.2.2.2.1, y18.2.2.2.2.2.2.2.2.2.1, y18.2.2.2.2.2.2.2.2.2.2.1, y18.2.2.2.2.2.2.2.2.2.2.2.1, y18.2.2.2.2.2.2.2.2.2.2.2.2.1, y18.2.2.2.2.2.2.2.2.2.2.2.2.2))) (fun y19 =>
sel (fun y20 =>
some (.inr (.inr (.inl ((!y20.2.2.2.1), y20.1, y20.2.1, y20.2.2.1, y20.2.2.2.1, y20.2.2.2.2.1, y20.2.2.2.2.2.1, y20.2.2.2.2.2.2.1, y20.2.2.2.2.2.2.2.1, y20.2.2.2.2.2.2.2.2.1, y20.2.2.2.2.2.2.2.2.2.1, y20.2.2.2.2.2.2.2.2.2.2.1, y20.2.2.2.2.2.2.2.2.2.2.2.1, y20.2.2.2.2.2.2.2.2.2.2.2.2.1, y20.2.2.2.2.2.2.2.2.2.2.2.2.2.1, y20.2.2.2.2.2.2.2.2.2.2.2.2.2.2.1, y20.2.2.2.2.2.2.2.2.2.2.2.2.2.2.2))))) (fun y21 =>
some (.inr (.inr (.inr ((!y21.2.2.2.1), y21.1, y21.2.1, y21.2.2.1, y21.2.2.2.1, y21.2.2.2.2.1, y21.2.2.2.2.2.1, y21.2.2.2.2.2.2.1, y21.2.2.2.2.2.2.2.1, y21.2.2.2.2.2.2.2.2.1, y21.2.2.2.2.2.2.2.2.2.1, y21.2.2.2.2.2.2.2.2.2.2.1, y21.2.2.2.2.2.2.2.2.2.2.2.1, y21.2.2.2.2.2.2.2.2.2.2.2.2.1, y21.2.2.2.2.2.2.2.2.2.2.2.2.2.1, y21.2.2.2.2.2.2.2.2.2.2.2.2.2.2.1, y21.2.2.2.2.2.2.2.2.2.2.2.2.2.2.2.1, y21.2.2.2.2.2.2.2.2.2.2.2.2.2.2.2.2))))) y19) y17) y15)
def A10_1 : CTpl := ⟨[.pt 1000000 0, .ag [.i .i64, .i .i64, .s, .s, .fz .u (.str .nil), .i .i64, .fz .u (.int .i64 .nil), .i .i64, .i .i64, .i .i64], .ag [.i .i64, .i .i64, .i .u32, .i .i64, .fz .u q0q, .fz .u (.str .nil), .fz .u (.str .nil)]], [(1000000, .bx 53 [.i .i64, .i .i64, .i .i64, .b, .pt 1000001 0, .b, .mp 1000002, .i .i64, .fz .u q1q, .i .u32, .b, .i .i64]), (1000001, .bx 59 [.mp 1000003]), (1000002, .bx 3000000 [.i .i64, .pt 1000004 0]), (1000003, .mp ⟨.s, true, q0q⟩), (1000004, .bx 89 [.fz .u q1q, .fz .u q2q])]⟩
def h10_1 : List HTy := [.ti, .ti, .ts, .ts, .tl (.str .nil), .ti, .tl (.int .i64 .nil), .ti, .ti, .ti, .ti, .ti, .ti, .ti, .tl q0q, .tl (.str .nil), .tl (.str .nil), .ti, .ti, .ti, .tb, .tb, .ti, .tl q1q, .ti, .tb, .ti, .ti, .tm ⟨.s, true, q0q⟩, .tl q1q, .tl q2q]
def R10_1 : List RTpl := [⟨.b, [(1000000, .bx 53 [.i .i64, .i .i64, .i .i64, .b, .pt 1000001 0, .b, .mp 1000002, .i .i64, .fz .u q1q, .i .u32, .b, .i .i64]), (1000001, .bx 59 [.mp 1000003]), (1000002, .bx 3000000 [.i .i64, .pt 1000004 0]), (1000003, .mp ⟨.s, true, q0q⟩), (1000004, .bx 89 [.fz .u q1q, .fz .u q2q])], [.tb, .ti, .ti, .ti, .tb, .tb, .ti, .tl q1q, .ti, .tb, .ti, .ti, .tm ⟨.s, true, q0q⟩, .tl q1q, .tl q2q]⟩, ⟨.b, [(1000000, .bx 53 [.i .i64, .i .i64, .i .i64, .b, .pt 1000001 0, .b, .mp 500000, .i .i64, .fz .u q1q, .i .u32, .b, .i .i64]), (1000001, .bx 59 [.mp 1000003]), (1000002, .bx 3000000 [.i .i64, .pt 1000004 0]), (1000003, .mp ⟨.s, true, q0q⟩), (1000004, .bx 89 [.fz .u q1q, .fz .u q2q]), (500000, .bx 3000000 [])], [.tb, .ti, .ti, .ti, .tb, .tb, .ti, .tl q1q, .ti, .tb, .ti, .ti, .tm ⟨.s, true, q0q⟩, .tl q1q, .tl q2q]⟩, ⟨.b, [(1000000, .bx 53 [.i .i64, .i .i64, .i .i64, .b, .pt 1000001 0, .b, .mp 1000002, .i .i64, .fz .u q1q, .i .u32, .b, .i .i64]), (1000001, .bx 59 [.mp 1000003]), (1000002, .bx 3000000 [.i .i64, .pt 500000 0]), (1000003, .mp ⟨.s, true, q0q⟩), (1000004, .bx 89 [.fz .u q1q, .fz .u q2q]), (500000, .bx 89 [.fz .u q1q, .fz .u q2q])], [.tb, .ti, .ti, .ti, .tb, .tb, .ti, .tl q1q, .ti, .tb, .ti, .ti, .tm ⟨.s, true, q0q⟩, .tl q1q, .tl q2q, .tl q1q, .tl q2q]⟩, ⟨.b, [(1000000, .bx 53 [.i .i64, .i .i64, .i .i64, .b, .pt 1000001 0, .b, .mp 1000002, .i .i64, .fz .u q1q, .i .u32, .b, .i .i64]), (1000001, .bx 59 [.mp 1000003]), (1000002, .bx 3000000 [.i .i64, .pt 1000004 0, .i .i64, .pt 500000 0]), (1000003, .mp ⟨.s, true, q0q⟩), (1000004, .bx 89 [.fz .u q1q, .fz .u q2q]), (500000, .bx 89 [.fz .u q1q, .fz .u q2q])], [.tb, .ti, .ti, .ti, .tb, .tb, .ti, .tl q1q, .ti, .tb, .ti, .ti, .ti, .tm ⟨.s, true, q0q⟩, .tl q1q, .tl q2q, .tl q1q, .tl q2q]⟩]
def n10_1 : An := .sq (.nd) (.sq (.nd) (.jn [0] [] [(0, ⟨[], [(1000000, .bx 53 [.i .i64, .i .i64, .i .i64, .b, .pt 1000001 0, .b, .mp 300500, .i .i64, .fz .u q1q, .i .u32, .b, .i .i64]), (1000001, .bx 59 [.mp 1000003]), (1000002, .bx 3000000 [.i .i64, .pt 1000004 0]), (1000003, .mp ⟨.s, true, q0q⟩), (1000004, .bx 89 [.fz .u q1q, .fz .u q2q]), (300500, .bx 3000000 [])]⟩), (0, ⟨[], [(1000000, .bx 53 [.i .i64, .i .i64, .i .i64, .b, .pt 1000001 0, .b, .mp 1000002, .i .i64, .fz .u q1q, .i .u32, .b, .i .i64]), (1000001, .bx 59 [.mp 1000003]), (1000002, .bx 3000000 [.i .i64, .pt 1000004 0]), (1000003, .mp ⟨.s, true, q0q⟩), (1000004, .bx 89 [.fz .u q1q, .fz .u q2q])]⟩), (0, ⟨[], [(1000000, .bx 53 [.i .i64, .i .i64, .i .i64, .b, .pt 1000001 0, .b, .mp 1000002, .i .i64, .fz .u q1q, .i .u32, .b, .i .i64]), (1000001, .bx 59 [.mp 1000003]), (1000002, .bx 3000000 [.i .i64, .pt 300520 0]), (1000003, .mp ⟨.s, true, q0q⟩), (1000004, .bx 89 [.fz .u q1q, .fz .u q2q]), (300520, .bx 89 [.fz .u q1q, .fz .u q2q])]⟩), (0, ⟨[], [(1000000, .bx 53 [.i .i64, .i .i64, .i .i64, .b, .pt 1000001 0, .b, .mp 1000002, .i .i64, .fz .u q1q, .i .u32, .b, .i .i64]), (1000001, .bx 59 [.mp 1000003]), (1000002, .bx 3000000 [.i .i64, .pt 1000004 0, .i .i64, .pt 300530 0]), (1000003, .mp ⟨.s, true, q0q⟩), (1000004, .bx 89 [.fz .u q1q, .fz .u q2q]), (300530, .bx 89 [.fz .u q1q, .fz .u q2q])]⟩)] [[.ti, .ti, .ti, .tb, .tb, .ti, .tl q1q, .ti, .tb, .ti, .ti, .tm ⟨.s, true, q0q⟩, .tl q1q, .tl q2q], [.ti, .ti, .ti, .tb, .tb, .ti, .tl q1q, .ti, .tb, .ti, .ti, .tm ⟨.s, true, q0q⟩, .tl q1q, .tl q2q], [.ti, .ti, .ti, .tb, .tb, .ti, .tl q1q, .ti, .tb, .ti, .ti, .tm ⟨.s, true, q0q⟩, .tl q1q, .tl q2q, .tl q1q, .tl q2q], [.ti, .ti, .ti, .tb, .tb, .ti, .tl q1q, .ti, .tb, .ti, .ti, .ti, .tm ⟨.s, true, q0q⟩, .tl q1q, .tl q2q, .tl q1q, .tl q2q]] (.nd) (.nd)))
theorem e10_1 (k : Nat) (y : Tup h10_1) : EX Tryd.f10 A10_1 h10_1 [] R10_1 n10_1 [C17_1 k] k y = F10_1 k y.1 y.2.1 y.2.2.1 y.2.2.2.1 y.2.2.2.2.1 y.2.2.2.2.2.1 y.2.2.2.2.2.2.1 y.2.2.2.2.2.2.2.1 y.2.2.2.2.2.2.2.2.1 y.2.2.2.2.2.2.2.2.2.1 y.2.2.2.2.2.2.2.2.2.2.1 y.2.2.2.2.2.2.2.2.2.2.2.1 y.2.2.2.2.2.2.2.2.2.2.2.2.1 y.2.2.2.2.2.2.2.2.2.2.2.2.2.1 y.2.2.2.2.2.2.2.2.2.2.2.2.2.2.1 y.2.2.2.2.2.2.2.2.2.2.2.2.2.2.2.1 y.2.2.2.2.2.2.2.2.2.2.2.2.2.2.2.2.1 y.2.2.2.2.2.2.2.2.2.2.2.2.2.2.2.2.2.1 y.2.2.2.2.2.2.2.2.2.2.2.2.2.2.2.2.2.2.1 y.2.2.2.2.2.2.2.2.2.2.2.2.2.2.2.2.2.2.2.1 y.2.2.2.2.2.2.2.2.2.2.2.2.2.2.2.2.2.2.2.2.1 y.2.2.2.2.2.2.2.2.2.2.2.2.2.2.2.2.2.2.2.2.2.1 y.2.2.2.2.2.2.2.2.2.2.2.2.2.2.2.2.2.2.2.2.2.2.1 y.2.2.2.2.2.2.2.2.2.2.2.2.2.2.2.2.2.2.2.2.2.2.2.1 y.2.2.2.2.2.2.2.2.2.2.2.2.2.2.2.2.2.2.2.2.2.2.2.2.1 y.2.2.2.2.2.2.2.2.2.2.2.2.2.2.2.2.2.2.2.2.2.2.2.2.2.1 y.2.2.2.2.2.2.2.2.2.2.2.2.2.2.2.2.2.2.2.2.2.2.2.2.2.2.1 y.2.2.2.2.2.2.2.2.2.2.2.2.2.2.2.2.2.2.2.2.2.2.2.2.2.2.2.1 y.2.2.2.2.2.2.2.2.2.2.2.2.2.2.2.2.2.2.2.2.2.2.2.2.2.2.2.2.1 y.2.2.2.2.2.2.2.2.2.2.2.2.2.2.2.2.2.2.2.2.2.2.2.2.2.2.2.2.2.1 y.2.2.2.2.2.2.2.2.2.2.2.2.2.2.2.2.2.2.2.2.2.2.2.2.2.2.2.2.2.2 := by kernel_rfl
noncomputable def C10_1 (k : Nat) : Con Tryd.prog := CK 10 Tryd.func10 (e10_1 k)
noncomputable def F20_2 (k : Nat) (x1 : Int) (x2 : Int) (x3 : Int) (x4 : Bool) (x5 : Bool) (x6 : Int) (x7 : t4t) (x8 : Int) (x9 : Bool) (x10 : Int) (x11 : Int) (x12 : Int) (x13 : t3t) (x14 : t4t) (x15 : t5t) (x16 : t4t) (x17 : t5t) : Option t10t :=
some (x1, x2, x3, x4, false, 0, x7, x8, x9, x10)
def A20_2 : CTpl := ⟨[.pt 1000000 0], [(1000000, .bx 53 [.i .i64, .i .i64, .i .i64, .b, .pt 1000001 0, .b, .mp 1000002, .i .i64, .fz .u q1q, .i .u32, .b, .i .i64]), (1000001, .bx 59 [.mp 1000003]), (1000002, .bx 3000000 [.i .i64, .pt 1000004 0, .i .i64, .pt 1000005 0]), (1000003, .mp ⟨.s, true, q0q⟩), (1000004, .bx 89 [.fz .u q1q, .fz .u q2q]), (1000005, .bx 89 [.fz .u q1q, .fz .u q2q])]⟩
def h20_2 : List HTy := [.ti, .ti, .ti, .tb, .tb, .ti, .tl q1q, .ti, .tb, .ti, .ti, .ti, .tm ⟨.s, true, q0q⟩, .tl q1q, .tl q2q, .tl q1q, .tl q2q]
def R20_2 : List RTpl := [⟨.tp [], [(1000000, .bx 53 [.i .i64, .i .i64, .i .i64, .b, .pt 1000001 0, .b, .mp 500000, .i .i64, .fz .u q1q, .i .u32, .b, .i .i64]), (500000, .bx 3000000 [])], [.ti, .ti, .ti, .tb, .tb, .ti, .tl q1q, .ti, .tb, .ti]⟩]
def n20_2 : An := .nd
theorem e20_2 (k : Nat) (y : Tup h20_2) : EX Tryd.f20 A20_2 h20_2 [1000001, 1000002, 1000003, 1000004, 1000005] R20_2 n20_2 [] k y = F20_2 k y.1 y.2.1 y.2.2.1 y.2.2.2.1 y.2.2.2.2.1 y.2.2.2.2.2.1 y.2.2.2.2.2.2.1 y.2.2.2.2.2.2.2.1 y.2.2.2.2.2.2.2.2.1 y.2.2.2.2.2.2.2.2.2.1 y.2.2.2.2.2.2.2.2.2.2.1 y.2.2.2.2.2.2.2.2.2.2.2.1 y.2.2.2.2.2.2.2.2.2.2.2.2.1 y.2.2.2.2.2.2.2.2.2.2.2.2.2.1 y.2.2.2.2.2.2.2.2.2.2.2.2.2.2.1 y.2.2.2.2.2.2.2.2.2.2.2.2.2.2.2.1 y.2.2.2.2.2.2.2.2.2.2.2.2.2.2.2.2 := by kernel_rfl
noncomputable def C20_2 (k : Nat) : Con Tryd.prog := CK 20 Tryd.func20 (e20_2 k)
noncomputable def F14_2 (k : Nat) (x1 : Int) (x2 : Int) (x3 : Int) (x4 : Bool) (x5 : Bool) (x6 : Int) (x7 : t4t) (x8 : Int) (x9 : Bool) (x10 : Int) (x11 : Int) (x12 : Int) (x13 : t3t) (x14 : t4t) (x15 : t5t) (x16 : t4t) (x17 : t5t) : Option (t3t × t6t) :=
(F19 k x13).bind fun y1 => 
(F18 k y1.1 y1.2).bind fun y2 => 
some (y1.2, y2)
def A14_2 : CTpl := ⟨[.pt 1000000 0], [(1000000, .bx 53 [.i .i64, .i .i64, .i .i64, .b, .pt 1000001 0, .b, .mp 1000002, .i .i64, .fz .u q1q, .i .u32, .b, .i .i64]), (1000001, .bx 59 [.mp 1000003]), (1000002, .bx 3000000 [.i .i64, .pt 1000004 0, .i .i64, .pt 1000005 0]), (1000003, .mp ⟨.s, true, q0q⟩), (1000004, .bx 89 [.fz .u q1q, .fz .u q2q]), (1000005, .bx 89 [.fz .u q1q, .fz .u q2q])]⟩
def h14_2 : List HTy := [.ti, .ti, .ti, .tb, .tb, .ti, .tl q1q, .ti, .tb, .ti, .ti, .ti, .tm ⟨.s, true, q0q⟩, .tl q1q, .tl q2q, .tl q1q, .tl q2q]
def R14_2 : List RTpl := [⟨.sl .u 500000, [(1000001, .bx 59 [.mp 1000003]), (1000003, .mp ⟨.s, true, q0q⟩), (500000, .ar 41 q0q)], [.tm ⟨.s, true, q0q⟩, .tl q0q]⟩]
def n14_2 : An := .sq (.nd) (.sq (.nd) (.sq (.mk [] [0, 1, 3, 7, 0, 16, 48, 112, 240, 511, 1023]) (.nd)))
theorem e14_2 (k : Nat) (y : Tup h14_2) : EX Tryd.f14 A14_2 h14_2 [1000000, 1000002, 1000004, 1000005] R14_2 n14_2 [C19 k, C18 k] k y = F14_2 k y.1 y.2.1 y.2.2.1 y.2.2.2.1 y.2.2.2.2.1 y.2.2.2.2.2.1 y.2.2.2.2.2.2.1 y.2.2.2.2.2.2.2.1 y.2.2.2.2.2.2.2.2.1 y.2.2.2.2.2.2.2.2.2.1 y.2.2.2.2.2.2.2.2.2.2.1 y.2.2.2.2.2.2.2.2.2.2.2.1 y.2.2.2.2.2.2.2.2.2.2.2.2.1 y.2.2.2.2.2.2.2.2.2.2.2.2.2.1 y.2.2.2.2.2.2.2.2.2.2.2.2.2.2.1 y.2.2.2.2.2.2.2.2.2.2.2.2.2.2.2.1 y.2.2.2.2.2.2.2.2.2.2.2.2.2.2.2.2 := by kernel_rfl
noncomputable def C14_2 (k : Nat) : Con Tryd.prog := CK 14 Tryd.func14 (e14_2 k)
noncomputable def F32_2 (k : Nat) (x1 : Int) (x2 : Int) (x3 : Int) (x4 : Bool) (x5 : Bool) (x6 : Int) (x7 : t4t) (x8 : Int) (x9 : Bool) (x10 : Int) (x11 : Int) (x12 : Int) (x13 : t3t) (x14 : t4t) (x15 : t5t) (x16 : t4t) (x17 : t5t) : Option Bool :=
cond x9 (
some true) (
(F50 k x1 x2 x3).bind fun y1 => 
some (decide (y1 < x10)))
def A32_2 : CTpl := ⟨[.pt 1000000 0], [(1000000, .bx 53 [.i .i64, .i .i64, .i .i64, .b, .pt 1000001 0, .b, .mp 1000002, .i .i64, .fz .u q1q, .i .u32, .b, .i .i64]), (1000001, .bx 59 [.mp 1000003]), (1000002, .bx 3000000 [.i .i64, .pt 1000004 0, .i .i64, .pt 1000005 0]), (1000003, .mp ⟨.s, true, q0q⟩), (1000004, .bx 89 [.fz .u q1q, .fz .u q2q]), (1000005, .bx 89 [.fz .u q1q, .fz .u q2q])]⟩
def h32_2 : List HTy := [.ti, .ti, .ti, .tb, .tb, .ti, .tl q1q, .ti, .tb, .ti, .ti, .ti, .tm ⟨.s, true, q0q⟩, .tl q1q, .tl q2q, .tl q1q, .tl q2q]
def R32_2 : List RTpl := [⟨.b, [], [.tb]⟩]
def n32_2 : An := .sq (.nd) (.sq (.mk [] [0, 1, 3, 7, 15, 31, 63, 127, 255, 31, 543, 1567, 3615, 7711, 16383, 32767, 65535]) (.nd))
theorem e32_2 (k : Nat) (y : Tup h32_2) : EX Tryd.f32 A32_2 h32_2 [1000000, 1000001, 1000002, 1000003, 1000004, 1000005] R32_2 n32_2 [C50 k] k y = F32_2 k y.1 y.2.1 y.2.2.1 y.2.2.2.1 y.2.2.2.2.1 y.2.2.2.2.2.1 y.2.2.2.2.2.2.1 y.2.2.2.2.2.2.2.1 y.2.2.2.2.2.2.2.2.1 y.2.2.2.2.2.2.2.2.2.1 y.2.2.2.2.2.2.2.2.2.2.1 y.2.2.2.2.2.2.2.2.2.2.2.1 y.2.2.2.2.2.2.2.2.2.2.2.2.1 y.2.2.2.2.2.2.2.2.2.2.2.2.2.1 y.2.2.2.2.2.2.2.2.2.2.2.2.2.2.1 y.2.2.2.2.2.2.2.2.2.2.2.2.2.2.2.1 y.2.2.2.2.2.2.2.2.2.2.2.2.2.2.2.2 := by kernel_rfl
noncomputable def C32_2 (k : Nat) : Con Tryd.prog := CK 32 Tryd.func32 (e32_2 k)
noncomputable def L27_2_10 (k : Nat) (x1 : t6t) (y40 : (t3t × t6t)) (z41 : (Int × Int × Int × (List ByteArray))) : Option ((Int × Int × Int × (List ByteArray)) ⊕ (Int × Int × (List ByteArray))) :=
cond (decide (z41.2.2.1 < (y40.2.length : Int))) (
(((ix y40.2 z41.2.2.1).bind fun a42 =>
(y40.2[z41.2.2.1.toNat]?).bind fun a43 =>
((cond (decide (z41.2.1 < (x1.length : Int))) (
(ix x1 z41.2.1).bind fun a44 =>
some ((a44.1.toList == a43.1.toList) && ((a44.2.1 == a43.2.1) && ((a44.2.2.1.toList == a43.2.2.1.toList) && ((a44.2.2.2 == a43.2.2.2) && true))))) (
some false) : Option Bool)).bind fun y45 => 
cond y45 (
some (z41.1, (IntKind.wrap .i64 (z41.2.1 + 1)), z41.2.2.2)) (
grd (decide ((z41.2.2.2.length + [a43.1].length) * 16 ≤ 140737488355328)) <|
some ((mx z41.1 a43.2.2.2), z41.2.1, (z41.2.2.2 ++ [a43.1]))) : Option (Int × Int × (List ByteArray)))).bind fun y46 => 
some (.inl (y46.1, y46.2.1, (IntKind.wrap .i64 (z41.2.2.1 + 1)), y46.2.2))) (
some (.inr (z41.1, z41.2.1, z41.2.2.2)))
noncomputable def L27_2_45 (k : Nat) (x1 : t6t) (y47 : (Int × Int × (List ByteArray))) (z62 : Int) : Option (Int ⊕ (Unit ⊕ Unit)) :=
cond (decide (z62 < (x1.length : Int))) (
(ix x1 z62).bind fun a63 =>
cond (decide (a63.2.2.2 ≤ y47.1)) (
some (.inr (.inl ()))) (
some (.inl (IntKind.wrap .i64 (z62 + 1))))) (
some (.inr (.inr ())))
noncomputable def F27_2 (k : Nat) (x1 : t6t) (x2 : Int) (x3 : Int) (x4 : Int) (x5 : Bool) (x6 : Bool) (x7 : Int) (x8 : t4t) (x9 : Int) (x10 : Bool) (x11 : Int) (x12 : Int) (x13 : Int) (x14 : t3t) (x15 : t4t) (x16 : t5t) (x17 : t4t) (x18 : t5t) : Option ((Bool × t3t) ⊕ (Bool × t3t × (List ByteArray))) :=
(F14_2 k x2 x3 x4 x5 x6 x7 x8 x9 x10 x11 x12 x13 x14 x15 x16 x17 x18).bind fun y40 => 
(loopN (L27_2_10 k x1 y40) k (0, 0, 0, ([] : List ByteArray))).bind fun y47 => 
((cond (decide (y47.2.1 < (x1.length : Int))) (
some true) (
cond (decide (0 < (y47.2.2.length : Int))) (
(F32_2 k x2 x3 x4 x5 x6 x7 x8 x9 x10 x11 x12 x13 y40.1 x15 x16 x17 x18).bind fun y51 => 
some (!y51)) (
some false)) : Option Bool)).bind fun y52 => 
cond y52 (
some (.inl (false, y40.1))) (
(loopN (L27_2_45 k x1 y47) k 0).bind fun y64 => 
sel (fun y65 =>
some (.inl (false, y40.1))) (fun y66 =>
some (.inr (true, y40.1, y47.2.2))) y64)
def A27_2 : CTpl := ⟨[.pt 1000000 0, .fz .u q0q], [(1000000, .bx 53 [.i .i64, .i .i64, .i .i64, .b, .pt 1000001 0, .b, .mp 1000002, .i .i64, .fz .u q1q, .i .u32, .b, .i .i64]), (1000001, .bx 59 [.mp 1000003]), (1000002, .bx 3000000 [.i .i64, .pt 1000004 0, .i .i64, .pt 1000005 0]), (1000003, .mp ⟨.s, true, q0q⟩), (1000004, .bx 89 [.fz .u q1q, .fz .u q2q]), (1000005, .bx 89 [.fz .u q1q, .fz .u q2q])]⟩
def h27_2 : List HTy := [.tl q0q, .ti, .ti, .ti, .tb, .tb, .ti, .tl q1q, .ti, .tb, .ti, .ti, .ti, .tm ⟨.s, true, q0q⟩, .tl q1q, .tl q2q, .tl q1q, .tl q2q]
def R27_2 : List RTpl := [⟨.tp [.c (.slice none 0 0), .b], [(1000001, .bx 59 [.mp 1000003]), (1000003, .mp ⟨.s, true, q0q⟩)], [.tb, .tm ⟨.s, true, q0q⟩]⟩, ⟨.tp [.sl .u 500000, .b], [(1000001, .bx 59 [.mp 1000003]), (1000003, .mp ⟨.s, true, q0q⟩), (500000, .ar 9 (.str .nil))], [.tb, .tm ⟨.s, true, q0q⟩, .tl (.str .nil)]⟩]
def n27_2 : An := .sq (.nd) (.sq (.nd) (.sq (.nd) (.sq (.sq (.nd) (.lp [0, 1, 14, 15] [401400, 1000001, 1000003] ⟨[(6, .sl .n 300500), (7, .i .u32), (8, .i .i64), (16, .i .i64)], [(300500, .ar 9 (.str .nil))]⟩ [.ti, .ti, .ti, .tl (.str .nil)] [(2, ⟨[(6, .sl .n 300525), (7, .i .u32), (8, .i .i64)], [(300525, .ar 9 (.str .nil))]⟩)] [[.ti, .ti, .tl (.str .nil)]] (.sq (.nd) (.sq (.nd) (.jn [16] [] [(0, ⟨[(6, .sl .n 300850), (7, .i .u32), (8, .i .i64)], [(300850, .ar 9 (.str .nil))]⟩)] [[.ti, .ti, .tl (.str .nil)]] (.sq (.nd) (.sq (.jn [6, 7, 8, 10] [10, 300500] [(0, ⟨[(31, .b)], []⟩)] [[.tb]] (.mk [] [0, 0, 2, 7, 15, 31, 31, 127, 255, 31, 1023, 2047]) (.nd)) (.nd))) (.nd)))))) (.sq (.jn [1, 6, 7] [300525, 1000001, 1000003] [(0, ⟨[(57, .b)], []⟩)] [[.tb]] (.nd) (.nd)) (.sq (.sq (.nd) (.lp [6, 7, 58, 59] [300525, 1000001, 1000003] ⟨[(60, .i .i64)], []⟩ [.ti] [(1, ⟨[(4, .c (.slice none 0 0)), (5, .lb false)], []⟩), (4, ⟨[], []⟩)] [[], []] (.nd))) (.nd))))))
theorem e27_2 (k : Nat) (y : Tup h27_2) : EX Tryd.f27 A27_2 h27_2 [1000000, 1000002, 1000004, 1000005] R27_2 n27_2 [C14_2 k, C32_2 k] k y = F27_2 k y.1 y.2.1 y.2.2.1 y.2.2.2.1 y.2.2.2.2.1 y.2.2.2.2.2.1 y.2.2.2.2.2.2.1 y.2.2.2.2.2.2.2.1 y.2.2.2.2.2.2.2.2.1 y.2.2.2.2.2.2.2.2.2.1 y.2.2.2.2.2.2.2.2.2.2.1 y.2.2.2.2.2.2.2.2.2.2.2.1 y.2.2.2.2.2.2.2.2.2.2.2.2.1 y.2.2.2.2.2.2.2.2.2.2.2.2.2.1 y.2.2.2.2.2.2.2.2.2.2.2.2.2.2.1 y.2.2.2.2.2.2.2.2.2.2.2.2.2.2.2.1 y.2.2.2.2.2.2.2.2.2.2.2.2.2.2.2.2.1 y.2.2.2.2.2.2.2.2.2.2.2.2.2.2.2.2.2 := by kernel_rfl
noncomputable def C27_2 (k : Nat) : Con Tryd.prog := CK 27 Tryd.func27 (e27_2 k)
noncomputable def L21_2_48 (k : Nat) (x5 : t6t) (z22 : (Int × Int)) : Option ((Int × Int) ⊕ Int) :=
cond (decide (z22.2 < (x5.length : Int))) (
(ix x5 z22.2).bind fun a23 =>
some (.inl ((mx z22.1 a23.2.2.2), (IntKind.wrap .i64 (z22.2 + 1))))) (
some (.inr z22.1))
noncomputable def F21_2 (k : Nat) (x1 : Int) (x2 : Int) (x3 : Int) (x4 : Int) (x5 : t6t) (x6 : (List ByteArray)) (x7 : (List ByteArray)) (x8 : Int) (x9 : Int) (x10 : Int) (x11 : Bool) (x12 : Bool) (x13 : Int) (x14 : t4t) (x15 : Int) (x16 : Bool) (x17 : Int) (x18 : Int) (x19 : Int) (x20 : t3t) (x21 : t4t) (x22 : t5t) (x23 : t4t) (x24 : t5t) : Option t8t :=
cond x12 (
some ((x1 == 7), x8, x9, x10, x11, x12, x13, x14, x15, x16, x17, x18, x19, x20, x21, x22, x23, x24)) (
cond (x1 != 0) (
some ((x1 != 7), x8, x9, x10, x11, x12, x13, x14, x15, x16, x17, x18, x19, x20, x21, x22, x23, x24)) (
(((F27_2 k x5 x8 x9 x10 x11 true x13 x14 x15 x16 x17 x18 x19 x20 x21 x22 x23 x24).bind fun y10 => 
sel (fun y11 =>
some (y11.1, y11.2, ([] : List ByteArray))) (fun y12 =>
some (y12.1, y12.2.1, y12.2.2)) y10 : Option (Bool × t3t × (List ByteArray)))).bind fun y13 => 
cond y13.1 (
(F28 k y13.2.2 y13.2.1).bind fun y14 => 
some (true, x8, x9, x10, x11, true, x13, ([] : List (ByteArray × Bool × ByteArray)), x15, x16, x17, x18, x19, y14, x21, x22, x23, x24)) (
cond ((x14.length : Int) == 0) (
some (false, x8, x9, x10, x11, true, x13, x14, x15, x16, x17, x18, x19, y13.2.1, x21, x22, x23, x24)) (
(loopN (L21_2_48 k x5) k (0, 0)).bind fun y24 => 
((cond (decide (y24 ≤ x15)) (
some (IntKind.wrap .u32 (x15 + 1))) (
some y24) : Option Int)).bind fun y25 => 
none))))
def A21_2 : CTpl := ⟨[.pt 1000000 0, .ag [.i .i64, .i .i64, .i .u32, .i .i64, .fz .u q0q, .fz .u (.str .nil), .fz .u (.str .nil)]], [(1000000, .bx 53 [.i .i64, .i .i64, .i .i64, .b, .pt 1000001 0, .b, .mp 1000002, .i .i64, .fz .u q1q, .i .u32, .b, .i .i64]), (1000001, .bx 59 [.mp 1000003]), (1000002, .bx 3000000 [.i .i64, .pt 1000004 0, .i .i64, .pt 1000005 0]), (1000003, .mp ⟨.s, true, q0q⟩), (1000004, .bx 89 [.fz .u q1q, .fz .u q2q]), (1000005, .bx 89 [.fz .u q1q, .fz .u q2q])]⟩
def h21_2 : List HTy := [.ti, .ti, .ti, .ti, .tl q0q, .tl (.str .nil), .tl (.str .nil), .ti, .ti, .ti, .tb, .tb, .ti, .tl q1q, .ti, .tb, .ti, .ti, .ti, .tm ⟨.s, true, q0q⟩, .tl q1q, .tl q2q, .tl q1q, .tl q2q]
def R21_2 : List RTpl := [⟨.b, [(1000000, .bx 53 [.i .i64, .i .i64, .i .i64, .b, .pt 1000001 0, .b, .mp 1000002, .i .i64, .fz .u q1q, .i .u32, .b, .i .i64]), (1000001, .bx 59 [.mp 1000003]), (1000002, .bx 3000000 [.i .i64, .pt 1000004 0, .i .i64, .pt 1000005 0]), (1000003, .mp ⟨.s, true, q0q⟩), (1000004, .bx 89 [.fz .u q1q, .fz .u q2q]), (1000005, .bx 89 [.fz .u q1q, .fz .u q2q])], [.tb, .ti, .ti, .ti, .tb, .tb, .ti, .tl q1q, .ti, .tb, .ti, .ti, .ti, .tm ⟨.s, true, q0q⟩, .tl q1q, .tl q2q, .tl q1q, .tl q2q]⟩]
def n21_2 : An := .sq (.nd) (.sq (.nd) (.sq (.nd) (.sq (.nd) (.sq (.jn [0, 3] [3, 1000000, 1000002, 1000004, 1000005] [(0, ⟨[(5, .sl .u 301050), (6, .b)], [(1000001, .bx 59 [.mp 1000003]), (1000003, .mp ⟨.s, true, q0q⟩), (301050, .ar 9 (.str .nil))]⟩)] [[.tb, .tm ⟨.s, true, q0q⟩, .tl (.str .nil)]] (.nd) (.sq (.nd) (.sq (.sq (.nd) (.sq (.fr [(5, 301050)]) (.nd))) (.nd)))) (.sq (.nd) (.sq (.nd) (.sq (.sq (.nd) (.lp [0, 3, 52, 53] [3, 1000000, 1000001, 1000002, 1000003, 1000004, 1000005] ⟨[(7, .i .u32), (54, .i .i64)], []⟩ [.ti, .ti] [(2, ⟨[(7, .i .u32)], []⟩)] [[.ti]] (.nd))) (.jn [0, 3] [3, 1000000, 1000001, 1000002, 1000003, 1000004, 1000005] [(0, ⟨[(7, .i .u32)], []⟩)] [[.ti]] (.nd) (.nd)))))))))
theorem e21_2 (k : Nat) (y : Tup h21_2) : EX Tryd.f21 A21_2 h21_2 [] R21_2 n21_2 [C27_2 k, C28 k] k y = F21_2 k y.1 y.2.1 y.2.2.1 y.2.2.2.1 y.2.2.2.2.1 y.2.2.2.2.2.1 y.2.2.2.2.2.2.1 y.2.2.2.2.2.2.2.1 y.2.2.2.2.2.2.2.2.1 y.2.2.2.2.2.2.2.2.2.1 y.2.2.2.2.2.2.2.2.2.2.1 y.2.2.2.2.2.2.2.2.2.2.2.1 y.2.2.2.2.2.2.2.2.2.2.2.2.1 y.2.2.2.2.2.2.2.2.2.2.2.2.2.1 y.2.2.2.2.2.2.2.2.2.2.2.2.2.2.1 y.2.2.2.2.2.2.2.2.2.2.2.2.2.2.2.1 y.2.2.2.2.2.2.2.2.2.2.2.2.2.2.2.2.1 y.2.2.2.2.2.2.2.2.2.2.2.2.2.2.2.2.2.1 y.2.2.2.2.2.2.2.2.2.2.2.2.2.2.2.2.2.2.1 y.2.2.2.2.2.2.2.2.2.2.2.2.2.2.2.2.2.2.2.1 y.2.2.2.2.2.2.2.2.2.2.2.2.2.2.2.2.2.2.2.2.1 y.2.2.2.2.2.2.2.2.2.2.2.2.2.2.2.2.2.2.2.2.2.1 y.2.2.2.2.2.2.2.2.2.2.2.2.2.2.2.2.2.2.2.2.2.2.1 y.2.2.2.2.2.2.2.2.2.2.2.2.2.2.2.2.2.2.2.2.2.2.2 := by kernel_rfl
noncomputable def C21_2 (k : Nat) : Con Tryd.prog := CK 21 Tryd.func21 (e21_2 k)
noncomputable def L23_2_16 (k : Nat) (y17 : t6t) (z18 : (Int × Int)) : Option ((Int × Int) ⊕ (Unit ⊕ Int)) :=
cond (decide (z18.2 < (y17.length : Int))) (
(ix y17 z18.2).bind fun a19 =>
(y17[z18.2.toNat]?).bind fun a20 =>
cond (!a20.2.1) (
some (.inr (.inl ()))) (
some (.inl ((mx z18.1 a20.2.2.2), (IntKind.wrap .i64 (z18.2 + 1)))))) (
some (.inr (.inr z18.1)))
noncomputable def L23_2_43 (k : Nat) (y23 : Int) (y42 : (t3t × t6t)) (z43 : Int) : Option (Int ⊕ (Unit ⊕ Unit)) :=
cond (decide (z43 < (y42.2.length : Int))) (
(ix y42.2 z43).bind fun a44 =>
(y42.2[z43.toNat]?).bind fun a45 =>
cond (decide (a45.2.2.2 ≤ y23)) (
some (.inr (.inl ()))) (
some (.inl (IntKind.wrap .i64 (z43 + 1))))) (
some (.inr (.inr ())))
noncomputable def F23_2 (k : Nat) (x1 : (List ByteArray)) (x2 : Int) (x3 : Int) (x4 : Int) (x5 : Bool) (x6 : Bool) (x7 : Int) (x8 : t4t) (x9 : Int) (x10 : Bool) (x11 : Int) (x12 : Int) (x13 : Int) (x14 : t3t) (x15 : t4t) (x16 : t5t) (x17 : t4t) (x18 : t5t) : Option (Bool × t3t) :=
cond ((x1.length : Int) == 0) (
some (true, x14)) (
(F18 k x1 x14).bind fun y17 => 
(loopN (L23_2_16 k y17) k (0, 0)).bind fun y21 => 
sel (fun y22 =>
some (false, x14)) (fun y23 =>
(F28 k x1 x14).bind fun y25 => 
(F14_2 k x2 x3 x4 x5 x6 x7 x8 x9 x10 x11 x12 x13 y25 x15 x16 x17 x18).bind fun y42 => 
(loopN (L23_2_43 k y23 y42) k 0).bind fun y46 => 
sel (fun y47 =>
some (false, y42.1)) (fun y48 =>
(F32_2 k x2 x3 x4 x5 x6 x7 x8 x9 x10 x11 x12 x13 y42.1 x15 x16 x17 x18).bind fun y49 => 
some (y49, y42.1)) y46) y21)
def A23_2 : CTpl := ⟨[.pt 1000000 0, .fz .u (.str .nil)], [(1000000, .bx 53 [.i .i64, .i .i64, .i .i64, .b, .pt 1000001 0, .b, .mp 1000002, .i .i64, .fz .u q1q, .i .u32, .b, .i .i64]), (1000001, .bx 59 [.mp 1000003]), (1000002, .bx 3000000 [.i .i64, .pt 1000004 0, .i .i64, .pt 1000005 0]), (1000003, .mp ⟨.s, true, q0q⟩), (1000004, .bx 89 [.fz .u q1q, .fz .u q2q]), (1000005, .bx 89 [.fz .u q1q, .fz .u q2q])]⟩
def h23_2 : List HTy := [.tl (.str .nil), .ti, .ti, .ti, .tb, .tb, .ti, .tl q1q, .ti, .tb, .ti, .ti, .ti, .tm ⟨.s, true, q0q⟩, .tl q1q, .tl q2q, .tl q1q, .tl q2q]
def R23_2 : List RTpl := [⟨.b, [(1000001, .bx 59 [.mp 1000003]), (1000003, .mp ⟨.s, true, q0q⟩)], [.tb, .tm ⟨.s, true, q0q⟩]⟩]
def n23_2 : An := .sq (.nd) (.sq (.nd) (.sq (.nd) (.sq (.sq (.nd) (.lp [0, 1, 18, 19] [401800, 1000001, 1000003] ⟨[(5, .i .u32), (20, .i .i64)], []⟩ [.ti, .ti] [(1, ⟨[(4, .lb false)], []⟩), (2, ⟨[(5, .i .u32)], []⟩)] [[], [.ti]] (.nd))) (.sq (.nd) (.sq (.sq (.nd) (.lp [0, 5, 39, 40] [403900, 1000001, 1000003] ⟨[(41, .i .i64)], []⟩ [.ti] [(1, ⟨[(4, .lb false)], []⟩), (4, ⟨[], []⟩)] [[], []] (.nd))) (.nd))))))
theorem e23_2 (k : Nat) (y : Tup h23_2) : EX Tryd.f23 A23_2 h23_2 [1000000, 1000002, 1000004, 1000005] R23_2 n23_2 [C18 k, C28 k, C14_2 k, C32_2 k] k y = F23_2 k y.1 y.2.1 y.2.2.1 y.2.2.2.1 y.2.2.2.2.1 y.2.2.2.2.2.1 y.2.2.2.2.2.2.1 y.2.2.2.2.2.2.2.1 y.2.2.2.2.2.2.2.2.1 y.2.2.2.2.2.2.2.2.2.1 y.2.2.2.2.2.2.2.2.2.2.1 y.2.2.2.2.2.2.2.2.2.2.2.1 y.2.2.2.2.2.2.2.2.2.2.2.2.1 y.2.2.2.2.2.2.2.2.2.2.2.2.2.1 y.2.2.2.2.2.2.2.2.2.2.2.2.2.2.1 y.2.2.2.2.2.2.2.2.2.2.2.2.2.2.2.1 y.2.2.2.2.2.2.2.2.2.2.2.2.2.2.2.2.1 y.2.2.2.2.2.2.2.2.2.2.2.2.2.2.2.2.2 := by kernel_rfl
noncomputable def C23_2 (k : Nat) : Con Tryd.prog := CK 23 Tryd.func23 (e23_2 k)
noncomputable def F25_2 (k : Nat) (x1 : Int) (x2 : Int) (x3 : ByteArray) (x4 : ByteArray) (x5 : (List ByteArray)) (x6 : Int) (x7 : (List Int)) (x8 : Int) (x9 : Int) (x10 : Int) (x11 : Int) (x12 : Int) (x13 : Int) (x14 : Int) (x15 : t6t) (x16 : (List ByteArray)) (x17 : (List ByteArray)) (x18 : Int) (x19 : Int) (x20 : Int) (x21 : Bool) (x22 : Bool) (x23 : Int) (x24 : t4t) (x25 : Int) (x26 : Bool) (x27 : Int) (x28 : Int) (x29 : Int) (x30 : t3t) (x31 : t4t) (x32 : t5t) (x33 : t4t) (x34 : t5t) : Option t9t :=
cond (x1 == 1) (
cond (x11 != 0) (
some (true, x18, x19, x20, x21, x22, x23, x24, x25, x26, x27, x30)) (
(F37 k).bind fun y4 => 
none)) (
cond (x1 == 8) (
cond (x11 != 0) (
some (true, x18, x19, x20, x21, x22, x23, x24, x25, x26, x27, x30)) (
none)) (
((cond (x1 == 9) (
some (x11 == 0)) (
some false) : Option Bool)).bind fun y5 => 
cond y5 (
none) (
(F23_2 k x17 x18 x19 x20 x21 x22 x23 x24 x25 x26 x27 x28 x29 x30 x31 x32 x33 x34).bind fun y6 => 
some (y6.1, x18, x19, x20, x21, x22, x23, x24, x25, x26, x27, y6.2))))
def A25_2 : CTpl := ⟨[.pt 1000000 0, .ag [.i .i64, .i .i64, .s, .s, .fz .u (.str .nil), .i .i64, .fz .u (.int .i64 .nil), .i .i64, .i .i64, .i .i64], .ag [.i .i64, .i .i64, .i .u32, .i .i64, .fz .u q0q, .fz .u (.str .nil), .fz .u (.str .nil)]], [(1000000, .bx 53 [.i .i64, .i .i64, .i .i64, .b, .pt 1000001 0, .b, .mp 1000002, .i .i64, .fz .u q1q, .i .u32, .b, .i .i64]), (1000001, .bx 59 [.mp 1000003]), (1000002, .bx 3000000 [.i .i64, .pt 1000004 0, .i .i64, .pt 1000005 0]), (1000003, .mp ⟨.s, true, q0q⟩), (1000004, .bx 89 [.fz .u q1q, .fz .u q2q]), (1000005, .bx 89 [.fz .u q1q, .fz .u q2q])]⟩
def h25_2 : List HTy := [.ti, .ti, .ts, .ts, .tl (.str .nil), .ti, .tl (.int .i64 .nil), .ti, .ti, .ti, .ti, .ti, .ti, .ti, .tl q0q, .tl (.str .nil), .tl (.str .nil), .ti, .ti, .ti, .tb, .tb, .ti, .tl q1q, .ti, .tb, .ti, .ti, .ti, .tm ⟨.s, true, q0q⟩, .tl q1q, .tl q2q, .tl q1q, .tl q2q]
def R25_2 : List RTpl := [⟨.b, [(1000000, .bx 53 [.i .i64, .i .i64, .i .i64, .b, .pt 1000001 0, .b, .mp 1000002, .i .i64, .fz .u q1q, .i .u32, .b, .i .i64]), (1000001, .bx 59 [.mp 1000003]), (1000003, .mp ⟨.s, true, q0q⟩)], [.tb, .ti, .ti, .ti, .tb, .tb, .ti, .tl q1q, .ti, .tb, .ti, .tm ⟨.s, true, q0q⟩]⟩]
def n25_2 : An := .sq (.nd) (.sq (.sq (.nd) (.sq (.sq (.nd) (.sq (.nd) (.sq (.mk [] [0, 1, 3, 7, 0, 16, 48, 112, 0, 511]) (.nd)))) (.sq (.nd) (.sq (.sq (.mk [] [0, 1, 3, 7, 15, 31, 15, 15, 143, 463, 1023, 2047, 4095]) (.nd)) (.jn [0, 4, 5] [4, 5, 1000000, 1000001, 1000003] [(0, ⟨[(54, .b)], []⟩)] [[.tb]] (.nd) (.nd)))))) (.nd))
theorem e25_2 (k : Nat) (y : Tup h25_2) : EX Tryd.f25 A25_2 h25_2 [1000002, 1000004, 1000005] R25_2 n25_2 [C37 k, C23_2 k] k y = F25_2 k y.1 y.2.1 y.2.2.1 y.2.2.2.1 y.2.2.2.2.1 y.2.2.2.2.2.1 y.2.2.2.2.2.2.1 y.2.2.2.2.2.2.2.1 y.2.2.2.2.2.2.2.2.1 y.2.2.2.2.2.2.2.2.2.1 y.2.2.2.2.2.2.2.2.2.2.1 y.2.2.2.2.2.2.2.2.2.2.2.1 y.2.2.2.2.2.2.2.2.2.2.2.2.1 y.2.2.2.2.2.2.2.2.2.2.2.2.2.1 y.2.2.2.2.2.2.2.2.2.2.2.2.2.2.1 y.2.2.2.2.2.2.2.2.2.2.2.2.2.2.2.1 y.2.2.2.2.2.2.2.2.2.2.2.2.2.2.2.2.1 y.2.2.2.2.2.2.2.2.2.2.2.2.2.2.2.2.2.1 y.2.2.2.2.2.2.2.2.2.2.2.2.2.2.2.2.2.2.1 y.2.2.2.2.2.2.2.2.2.2.2.2.2.2.2.2.2.2.2.1 y.2.2.2.2.2.2.2.2.2.2.2.2.2.2.2.2.2.2.2.2.1 y.2.2.2.2.2.2.2.2.2.2.2.2.2.2.2.2.2.2.2.2.2.1 y.2.2.2.2.2.2.2.2.2.2.2.2.2.2.2.2.2.2.2.2.2.2.1 y.2.2.2.2.2.2.2.2.2.2.2.2.2.2.2.2.2.2.2.2.2.2.2.1 y.2.2.2.2.2.2.2.2.2.2.2.2.2.2.2.2.2.2.2.2.2.2.2.2.1 y.2.2.2.2.2.2.2.2.2.2.2.2.2.2.2.2.2.2.2.2.2.2.2.2.2.1 y.2.2.2.2.2.2.2.2.2.2.2.2.2.2.2.2.2.2.2.2.2.2.2.2.2.2.1 y.2.2.2.2.2.2.2.2.2.2.2.2.2.2.2.2.2.2.2.2.2.2.2.2.2.2.2.1 y.2.2.2.2.2.2.2.2.2.2.2.2.2.2.2.2.2.2.2.2.2.2.2.2.2.2.2.2.1 y.2.2.2.2.2.2.2.2.2.2.2.2.2.2.2.2.2.2.2.2.2.2.2.2.2.2.2.2.2.1 y.2.2.2.2.2.2.2.2.2.2.2.2.2.2.2.2.2.2.2.2.2.2.2.2.2.2.2.2.2.2.1 y.2.2.2.2.2.2.2.2.2.2.2.2.2.2.2.2.2.2.2.2.2.2.2.2.2.2.2.2.2.2.2.1 y.2.2.2.2.2.2.2.2.2.2.2.2.2.2.2.2.2.2.2.2.2.2.2.2.2.2.2.2.2.2.2.2.1 y.2.2.2.2.2.2.2.2.2.2.2.2.2.2.2.2.2.2.2.2.2.2.2.2.2.2.2.2.2.2.2.2.2 := by kernel_rfl
noncomputable def C25_2 (k : Nat) : Con Tryd.prog := CK 25 Tryd.func25 (e25_2 k)
noncomputable def F17_2 (k : Nat) (x1 : Int) (x2 : Int) (x3 : ByteArray) (x4 : ByteArray) (x5 : (List ByteArray)) (x6 : Int) (x7 : (List Int)) (x8 : Int) (x9 : Int) (x10 : Int) (x11 : Int) (x12 : Int) (x13 : Int) (x14 : Int) (x15 : t6t) (x16 : (List ByteArray)) (x17 : (List ByteArray)) (x18 : Int) (x19 : Int) (x20 : Int) (x21 : Bool) (x22 : Bool) (x23 : Int) (x24 : t4t) (x25 : Int) (x26 : Bool) (x27 : Int) (x28 : Int) (x29 : Int) (x30 : t3t) (x31 : t4t) (x32 : t5t) (x33 : t4t) (x34 : t5t) : Option (t8t ⊕ t8t) :=
((cond (x1 == 11) (
some true) (
cond (x1 == 12) (
some true) (
some (x1 == 13))) : Option Bool)).bind fun y9 => 
cond y9 (
((cond (x1 == 12) (
(F20_2 k x18 x19 x20 x21 x22 x23 x24 x25 true x27 x28 x29 x30 x31 x32 x33 x34).bind fun y10 => 
some (.inl (y10.1, y10.2.1, y10.2.2.1, y10.2.2.2.1, y10.2.2.2.2.1, y10.2.2.2.2.2.1, y10.2.2.2.2.2.2.1, y10.2.2.2.2.2.2.2.1, y10.2.2.2.2.2.2.2.2.1, y10.2.2.2.2.2.2.2.2.2))) (
some (.inr (x18, x19, x20, x21, x22, x23, x24, x25, x27))) : Option (t10t ⊕ (Int × Int × Int × Bool × Bool × Int × t4t × Int × Int)))).bind fun y11 => 
sel (fun y12 =>
some (.inl (true, y12.1, y12.2.1, y12.2.2.1, y12.2.2.2.1, y12.2.2.2.2.1, y12.2.2.2.2.2.1, y12.2.2.2.2.2.2.1, y12.2.2.2.2.2.2.2.1, y12.2.2.2.2.2.2.2.2.1, y12.2.2.2.2.2.2.2.2.2, x28, x29, x30, x31, x32, x33, x34))) (fun y13 =>
some (.inr (true, y13.1, y13.2.1, y13.2.2.1, y13.2.2.2.1, y13.2.2.2.2.1, y13.2.2.2.2.2.1, y13.2.2.2.2.2.2.1, y13.2.2.2.2.2.2.2.1, true, y13.2.2.2.2.2.2.2.2, x28, x29, x30, x31, x32, x33, x34))) y11) (
cond (x1 == 14) (
(F21_2 k x11 x12 x13 x14 x15 x16 x17 x18 x19 x20 x21 x22 x23 x24 x25 x26 x27 x28 x29 x30 x31 x32 x33 x34).bind fun y14 => 
some (.inr (y14.1, y14.2.1, y14.2.2.1, y14.2.2.2.1, y14.2.2.2.2.1, y14.2.2.2.2.2.1, y14.2.2.2.2.2.2.1, y14.2.2.2.2.2.2.2.1, y14.2.2.2.2.2.2.2.2.1, y14.2.2.2.2.2.2.2.2.2.1, y14.2.2.2.2.2.2.2.2.2.2.1, y14.2.2.2.2.2.2.2.2.2.2.2.1, y14.2.2.2.2.2.2.2.2.2.2.2.2.1, y14.2.2.2.2.2.2.2.2.2.2.2.2.2.1, y14.2.2.2.2.2.2.2.2.2.2.2.2.2.2.1, y14.2.2.2.2.2.2.2.2.2.2.2.2.2.2.2.1, y14.2.2.2.2.2.2.2.2.2.2.2.2.2.2.2.2.1, y14.2.2.2.2.2.2.2.2.2.2.2.2.2.2.2.2.2))) (
((cond (decide (x1 < 1)) (
some true) (
some (decide (14 < x1))) : Option Bool)).bind fun y15 => 
cond y15 (
some (.inr ((x11 == 1), x18, x19, x20, x21, x22, x23, x24, x25, x26, x27, x28, x29, x30, x31, x32, x33, x34))) (
cond (!x22) (
some (.inr ((x11 == 6), x18, x19, x20, x21, x22, x23, x24, x25, x26, x27, x28, x29, x30, x31, x32, x33, x34))) (
((cond x26 (
some (x18, x19, x20, x21, x22, x23, x24, x25, true, x27)) (
some (x18, x19, x20, x21, x22, x23, x24, x25, (x1 == 7), x27)) : Option t10t)).bind fun y16 => 
((cond (x11 == 6) (
some true) (
some (x11 == 7)) : Option Bool)).bind fun y18 => 
cond y18 (
none) (
((cond (x1 == 2) (
some (x1 == 2)) (
cond (x1 == 3) (
some (x1 == 3)) (
cond (x1 == 4) (
some (x1 == 4)) (
cond (x1 == 5) (
some (x1 == 5)) (
some (x1 == 6))))) : Option Bool)).bind fun y20 => 
cond y20 (
none) (
(F25_2 k x1 x2 x3 x4 x5 x6 x7 x8 x9 x10 x11 x12 x13 x14 x15 x16 x17 y16.1 y16.2.1 y16.2.2.1 y16.2.2.2.1 y16.2.2.2.2.1 y16.2.2.2.2.2.1 y16.2.2.2.2.2.2.1 y16.2.2.2.2.2.2.2.1 y16.2.2.2.2.2.2.2.2.1 y16.2.2.2.2.2.2.2.2.2 x28 x29 x30 x31 x32 x33 x34).bind fun y21 => 
some (.inr (y21.1, y21.2.1, y21.2.2.1, y21.2.2.2.1, y21.2.2.2.2.1, y21.2.2.2.2.2.1, y21.2.2.2.2.2.2.1, y21.2.2.2.2.2.2.2.1, y21.2.2.2.2.2.2.2.2.1, y21.2.2.2.2.2.2.2.2.2.1, y21.2.2.2.2.2.2.2.2.2.2.1, x28, x29, y21.2.2.2.2.2.2.2.2.2.2.2, x31, x32, x33, x34))))))))
def A17_2 : CTpl := ⟨[.pt 1000000 0, .ag [.i .i64, .i .i64, .s, .s, .fz .u (.str .nil), .i .i64, .fz .u (.int .i64 .nil), .i .i64, .i .i64, .i .i64], .ag [.i .i64, .i .i64, .i .u32, .i .i64, .fz .u q0q, .fz .u (.str .nil), .fz .u (.str .nil)]], [(1000000, .bx 53 [.i .i64, .i .i64, .i .i64, .b, .pt 1000001 0, .b, .mp 1000002, .i .i64, .fz .u q1q, .i .u32, .b, .i .i64]), (1000001, .bx 59 [.mp 1000003]), (1000002, .bx 3000000 [.i .i64, .pt 1000004 0, .i .i64, .pt 1000005 0]), (1000003, .mp ⟨.s, true, q0q⟩), (1000004, .bx 89 [.fz .u q1q, .fz .u q2q]), (1000005, .bx 89 [.fz .u q1q, .fz .u q2q])]⟩
def h17_2 : List HTy := [.ti, .ti, .ts, .ts, .tl (.str .nil), .ti, .tl (.int .i64 .nil), .ti, .ti, .ti, .ti, .ti, .ti, .ti, .tl q0q, .tl (.str .nil), .tl (.str .nil), .ti, .ti, .ti, .tb, .tb, .ti, .tl q1q, .ti, .tb, .ti, .ti, .ti, .tm ⟨.s, true, q0q⟩, .tl q1q, .tl q2q, .tl q1q, .tl q2q]
def R17_2 : List RTpl := [⟨.b, [(1000000, .bx 53 [.i .i64, .i .i64, .i .i64, .b, .pt 1000001 0, .b, .mp 500000, .i .i64, .fz .u q1q, .i .u32, .b, .i .i64]), (1000001, .bx 59 [.mp 1000003]), (1000002, .bx 3000000 [.i .i64, .pt 1000004 0, .i .i64, .pt 1000005 0]), (1000003, .mp ⟨.s, true, q0q⟩), (1000004, .bx 89 [.fz .u q1q, .fz .u q2q]), (1000005, .bx 89 [.fz .u q1q, .fz .u q2q]), (500000, .bx 3000000 [])], [.tb, .ti, .ti, .ti, .tb, .tb, .ti, .tl q1q, .ti, .tb, .ti, .ti, .ti, .tm ⟨.s, true, q0q⟩, .tl q1q, .tl q2q, .tl q1q, .tl q2q]⟩, ⟨.b, [(1000000, .bx 53 [.i .i64, .i .i64, .i .i64, .b, .pt 1000001 0, .b, .mp 1000002, .i .i64, .fz .u q1q, .i .u32, .b, .i .i64]), (1000001, .bx 59 [.mp 1000003]), (1000002, .bx 3000000 [.i .i64, .pt 1000004 0, .i .i64, .pt 1000005 0]), (1000003, .mp ⟨.s, true, q0q⟩), (1000004, .bx 89 [.fz .u q1q, .fz .u q2q]), (1000005, .bx 89 [.fz .u q1q, .fz .u q2q])], [.tb, .ti, .ti, .ti, .tb, .tb, .ti, .tl q1q, .ti, .tb, .ti, .ti, .ti, .tm ⟨.s, true, q0q⟩, .tl q1q, .tl q2q, .tl q1q, .tl q2q]⟩]
def n17_2 : An := .sq (.nd) (.sq (.jn [0, 4, 5] [4, 5, 1000000, 1000001, 1000002, 1000003, 1000004, 1000005] [(0, ⟨[(10, .b)], []⟩)] [[.tb]] (.nd) (.sq (.sq (.nd) (.jn [] [1000001, 1000002, 1000003, 1000004, 1000005] [(0, ⟨[], [(1000000, .bx 53 [.i .i64, .i .i64, .i .i64, .b, .pt 1000001 0, .b, .mp 300450, .i .i64, .fz .u q1q, .i .u32, .b, .i .i64]), (300450, .bx 3000000 [])]⟩), (0, ⟨[], [(1000000, .bx 53 [.i .i64, .i .i64, .i .i64, .b, .pt 1000001 0, .b, .mp 1000002, .i .i64, .fz .u q1q, .i .u32, .lb true, .i .i64])]⟩)] [[.ti, .ti, .ti, .tb, .tb, .ti, .tl q1q, .ti, .tb, .ti], [.ti, .ti, .ti, .tb, .tb, .ti, .tl q1q, .ti, .ti]] (.nd) (.nd))) (.sq (.nd) (.sq (.nd) (.jn [0, 4, 5] [4, 5, 1000000, 1000001, 1000002, 1000003, 1000004, 1000005] [(0, ⟨[(39, .b)], []⟩)] [[.tb]] (.nd) (.nd)))))) (.jn [0, 4, 5] [4, 5, 1000001, 1000002, 1000003, 1000004, 1000005] [(0, ⟨[], [(1000000, .bx 53 [.i .i64, .i .i64, .i .i64, .b, .pt 1000001 0, .b, .mp 1000002, .i .i64, .fz .u q1q, .i .u32, .b, .i .i64])]⟩)] [[.ti, .ti, .ti, .tb, .tb, .ti, .tl q1q, .ti, .tb, .ti]] (.nd) (.sq (.jn [0, 4, 5] [4, 5, 1000000, 1000001, 1000002, 1000003, 1000004, 1000005] [(0, ⟨[(79, .b)], []⟩)] [[.tb]] (.nd) (.nd)) (.sq (.sq (.nd) (.jn [0, 4, 5] [4, 5, 1000000, 1000001, 1000002, 1000003, 1000004, 1000005] [(0, ⟨[(95, .b)], []⟩)] [[.tb]] (.nd) (.sq (.sq (.mk [] [0, 1, 3, 7, 0, 16, 63, 127, 255, 255, 511, 2047]) (.nd)) (.nd)))) (.nd)))))
theorem e17_2 (k : Nat) (y : Tup h17_2) : EX Tryd.f17 A17_2 h17_2 [] R17_2 n17_2 [C20_2 k, C21_2 k, C25_2 k] k y = F17_2 k y.1 y.2.1 y.2.2.1 y.2.2.2.1 y.2.2.2.2.1 y.2.2.2.2.2.1 y.2.2.2.2.2.2.1 y.2.2.2.2.2.2.2.1 y.2.2.2.2.2.2.2.2.1 y.2.2.2.2.2.2.2.2.2.1 y.2.2.2.2.2.2.2.2.2.2.1 y.2.2.2.2.2.2.2.2.2.2.2.1 y.2.2.2.2.2.2.2.2.2.2.2.2.1 y.2.2.2.2.2.2.2.2.2.2.2.2.2.1 y.2.2.2.2.2.2.2.2.2.2.2.2.2.2.1 y.2.2.2.2.2.2.2.2.2.2.2.2.2.2.2.1 y.2.2.2.2.2.2.2.2.2.2.2.2.2.2.2.2.1 y.2.2.2.2.2.2.2.2.2.2.2.2.2.2.2.2.2.1 y.2.2.2.2.2.2.2.2.2.2.2.2.2.2.2.2.2.2.1 y.2.2.2.2.2.2.2.2.2.2.2.2.2.2.2.2.2.2.2.1 y.2.2.2.2.2.2.2.2.2.2.2.2.2.2.2.2.2.2.2.2.1 y.2.2.2.2.2.2.2.2.2.2.2.2.2.2.2.2.2.2.2.2.2.1 y.2.2.2.2.2.2.2.2.2.2.2.2.2.2.2.2.2.2.2.2.2.2.1 y.2.2.2.2.2.2.2.2.2.2.2.2.2.2.2.2.2.2.2.2.2.2.2.1 y.2.2.2.2.2.2.2.2.2.2.2.2.2.2.2.2.2.2.2.2.2.2.2.2.1 y.2.2.2.2.2.2.2.2.2.2.2.2.2.2.2.2.2.2.2.2.2.2.2.2.2.1 y.2.2.2.2.2.2.2.2.2.2.2.2.2.2.2.2.2.2.2.2.2.2.2.2.2.2.1 y.2.2.2.2.2.2.2.2.2.2.2.2.2.2.2.2.2.2.2.2.2.2.2.2.2.2.2.1 y.2.2.2.2.2.2.2.2.2.2.2.2.2.2.2.2.2.2.2.2.2.2.2.2.2.2.2.2.1 y.2.2.2.2.2.2.2.2.2.2.2.2.2.2.2.2.2.2.2.2.2.2.2.2.2.2.2.2.2.1 y.2.2.2.2.2.2.2.2.2.2.2.2.2.2.2.2.2.2.2.2.2.2.2.2.2.2.2.2.2.2.1 y.2.2.2.2.2.2.2.2.2.2.2.2.2.2.2.2.2.2.2.2.2.2.2.2.2.2.2.2.2.2.2.1 y.2.2.2.2.2.2.2.2.2.2.2.2.2.2.2.2.2.2.2.2.2.2.2.2.2.2.2.2.2.2.2.2.1 y.2.2.2.2.2.2.2.2.2.2.2.2.2.2.2.2.2.2.2.2.2.2.2.2.2.2.2.2.2.2.2.2.2 := by kernel_rfl
noncomputable def C17_2 (k : Nat) : Con Tryd.prog := CK 17 Tryd.func17 (e17_2 k)
noncomputable def F10_2 (k : Nat) (x1 : Int) (x2 : Int) (x3 : ByteArray) (x4 : ByteArray) (x5 : (List ByteArray)) (x6 : Int) (x7 : (List Int)) (x8 : Int) (x9 : Int) (x10 : Int) (x11 : Int) (x12 : Int) (x13 : Int) (x14 : Int) (x15 : t6t) (x16 : (List ByteArray)) (x17 : (List ByteArray)) (x18 : Int) (x19 : Int) (x20 : Int) (x21 : Bool) (x22 : Bool) (x23 : Int) (x24 : t4t) (x25 : Int) (x26 : Bool) (x27 : Int) (x28 : Int) (x29 : Int) (x30 : t3t) (x31 : t4t) (x32 : t5t) (x33 : t4t) (x34 : t5t) : Option (t8t ⊕ t8t) :=
cond x21 (
some (.inl (false, x18, x19, x20, x21, x22, x23, x24, x25, x26, x27, x28, x29, x30, x31, x32, x33, x34))) (
(((F17_2 k x1 x2 x3 x4 x5 x6 x7 x8 x9 x10 x11 x12 x13 x14 x15 x16 x17 x18 x19 x20 x21 x22 x23 x24 x25 x26 x27 x28 x29 x30 x31 x32 x33 x34).bind fun y4 => 
sel (fun y5 =>
some (.inl (y5.2.1, y5.2.2.1, y5.2.2.2.1, (!y5.1), y5.2.2.2.2.2.1, y5.2.2.2.2.2.2.1, y5.2.2.2.2.2.2.2.1, y5.2.2.2.2.2.2.2.2.1, y5.2.2.2.2.2.2.2.2.2.1, y5.2.2.2.2.2.2.2.2.2.2.1, y5.2.2.2.2.2.2.2.2.2.2.2.1, y5.2.2.2.2.2.2.2.2.2.2.2.2.1, y5.2.2.2.2.2.2.2.2.2.2.2.2.2.1, y5.2.2.2.2.2.2.2.2.2.2.2.2.2.2.1, y5.2.2.2.2.2.2.2.2.2.2.2.2.2.2.2.1, y5.2.2.2.2.2.2.2.2.2.2.2.2.2.2.2.2.1, y5.2.2.2.2.2.2.2.2.2.2.2.2.2.2.2.2.2))) (fun y6 =>
some (.inr (y6.2.1, y6.2.2.1, y6.2.2.2.1, (!y6.1), y6.2.2.2.2.2.1, y6.2.2.2.2.2.2.1, y6.2.2.2.2.2.2.2.1, y6.2.2.2.2.2.2.2.2.1, y6.2.2.2.2.2.2.2.2.2.1, y6.2.2.2.2.2.2.2.2.2.2.1, y6.2.2.2.2.2.2.2.2.2.2.2.1, y6.2.2.2.2.2.2.2.2.2.2.2.2.1, y6.2.2.2.2.2.2.2.2.2.2.2.2.2.1, y6.2.2.2.2.2.2.2.2.2.2.2.2.2.2.1, y6.2.2.2.2.2.2.2.2.2.2.2.2.2.2.2.1, y6.2.2.2.2.2.2.2.2.2.2.2.2.2.2.2.2.1, y6.2.2.2.2.2.2.2.2.2.2.2.2.2.2.2.2.2))) y4 : Option ((Int × Int × Int × Bool × Bool × Int × t4t × Int × Bool × Int × Int × Int × t3t × t4t × t5t × t4t × t5t) ⊕ (Int × Int × Int × Bool × Bool × Int × t4t × Int × Bool × Int × Int × Int × t3t × t4t × t5t × t4t × t5t)))).bind fun y7 => 
sel (fun y8 =>
some (.inr ((!y8.2.2.2.1), y8.1, y8.2.1, y8.2.2.1, y8.2.2.2.1, y8.2.2.2.2.1, y8.2.2.2.2.2.1, y8.2.2.2.2.2.2.1, y8.2.2.2.2.2.2.2.1, y8.2.2.2.2.2.2.2.2.1, y8.2.2.2.2.2.2.2.2.2.1, y8.2.2.2.2.2.2.2.2.2.2.1, y8.2.2.2.2.2.2.2.2.2.2.2.1, y8.2.2.2.2.2.2.2.2.2.2.2.2.1, y8.2.2.2.2.2.2.2.2.2.2.2.2.2.1, y8.2.2.2.2.2.2.2.2.2.2.2.2.2.2.1, y8.2.2.2.2.2.2.2.2.2.2.2.2.2.2.2.1, y8.2.2.2.2.2.2.2.2.2.2.2.2.2.2.2.2))) (fun y9 =>
some (.inl ((!y9.2.2.2.1), y9.1, y9.2.1, y9.2.2.1, y9.2.2.2.1, y9.2.2.2.2.1, y9.2.2.2.2.2.1, y9.2.2.2.2.2.2.1, y9.2.2.2.2.2.2.2.1, y9.2.2.2.2.2.2.2.2.1, y9.2.2.2.2.2.2.2.2.2.1, y9.2.2.2.2.2.2.2.2.2.2.1, y9.2.2.2.2.2.2.2.2.2.2.2.1, y9.2.2.2.2.2.2.2.2.2.2.2.2.1, y9.2.2.2.2.2.2.2.2.2.2.2.2.2.1, y9.2.2.2.2.2.2.2.2.2.2.2.2.2.2.1, y9.2.2.2.2.2.2.2.2.2.2.2.2.2.2.2.1, y9.2.2.2.2.2.2.2.2.2.2.2.2.2.2.2.2))) y7)
def A10_2 : CTpl := ⟨[.pt 1000000 0, .ag [.i .i64, .i .i64, .s, .s, .fz .u (.str .nil), .i .i64, .fz .u (.int .i64 .nil), .i .i64, .i .i64, .i .i64], .ag [.i .i64, .i .i64, .i .u32, .i .i64, .fz .u q0q, .fz .u (.str .nil), .fz .u (.str .nil)]], [(1000000, .bx 53 [.i .i64, .i .i64, .i .i64, .b, .pt 1000001 0, .b, .mp 1000002, .i .i64, .fz .u q1q, .i .u32, .b, .i .i64]), (1000001, .bx 59 [.mp 1000003]), (1000002, .bx 3000000 [.i .i64, .pt 1000004 0, .i .i64, .pt 1000005 0]), (1000003, .mp ⟨.s, true, q0q⟩), (1000004, .bx 89 [.fz .u q1q, .fz .u q2q]), (1000005, .bx 89 [.fz .u q1q, .fz .u q2q])]⟩
def h10_2 : List HTy := [.ti, .ti, .ts, .ts, .tl (.str .nil), .ti, .tl (.int .i64 .nil), .ti, .ti, .ti, .ti, .ti, .ti, .ti, .tl q0q, .tl (.str .nil), .tl (.str .nil), .ti, .ti, .ti, .tb, .tb, .ti, .tl q1q, .ti, .tb, .ti, .ti, .ti, .tm ⟨.s, true, q0q⟩, .tl q1q, .tl q2q, .tl q1q, .tl q2q]
def R10_2 : List RTpl := [⟨.b, [(1000000, .bx 53 [.i .i64, .i .i64, .i .i64, .b, .pt 1000001 0, .b, .mp 1000002, .i .i64, .fz .u q1q, .i .u32, .b, .i .i64]), (1000001, .bx 59 [.mp 1000003]), (1000002, .bx 3000000 [.i .i64, .pt 1000004 0, .i .i64, .pt 1000005 0]), (1000003, .mp ⟨.s, true, q0q⟩), (1000004, .bx 89 [.fz .u q1q, .fz .u q2q]), (1000005, .bx 89 [.fz .u q1q, .fz .u q2q])], [.tb, .ti, .ti, .ti, .tb, .tb, .ti, .tl q1q, .ti, .tb, .ti, .ti, .ti, .tm ⟨.s, true, q0q⟩, .tl q1q, .tl q2q, .tl q1q, .tl q2q]⟩, ⟨.b, [(1000000, .bx 53 [.i .i64, .i .i64, .i .i64, .b, .pt 1000001 0, .b, .mp 500000, .i .i64, .fz .u q1q, .i .u32, .b, .i .i64]), (1000001, .bx 59 [.mp 1000003]), (1000002, .bx 3000000 [.i .i64, .pt 1000004 0, .i .i64, .pt 1000005 0]), (1000003, .mp ⟨.s, true, q0q⟩), (1000004, .bx 89 [.fz .u q1q, .fz .u q2q]), (1000005, .bx 89 [.fz .u q1q, .fz .u q2q]), (500000, .bx 3000000 [])], [.tb, .ti, .ti, .ti, .tb, .tb, .ti, .tl q1q, .ti, .tb, .ti, .ti, .ti, .tm ⟨.s, true, q0q⟩, .tl q1q, .tl q2q, .tl q1q, .tl q2q]⟩]
def n10_2 : An := .sq (.nd) (.sq (.nd) (.jn [0] [] [(0, ⟨[], [(1000000, .bx 53 [.i .i64, .i .i64, .i .i64, .b, .pt 1000001 0, .b, .mp 300500, .i .i64, .fz .u q1q, .i .u32, .b, .i .i64]), (1000001, .bx 59 [.mp 1000003]), (1000002, .bx 3000000 [.i .i64, .pt 1000004 0, .i .i64, .pt 1000005 0]), (1000003, .mp ⟨.s, true, q0q⟩), (1000004, .bx 89 [.fz .u q1q, .fz .u q2q]), (1000005, .bx 89 [.fz .u q1q, .fz .u q2q]), (300500, .bx 3000000 [])]⟩), (0, ⟨[], [(1000000, .bx 53 [.i .i64, .i .i64, .i .i64, .b, .pt 1000001 0, .b, .mp 1000002, .i .i64, .fz .u q1q, .i .u32, .b, .i .i64]), (1000001, .bx 59 [.mp 1000003]), (1000002, .bx 3000000 [.i .i64, .pt 1000004 0, .i .i64, .pt 1000005 0]), (1000003, .mp ⟨.s, true, q0q⟩), (1000004, .bx 89 [.fz .u q1q, .fz .u q2q]), (1000005, .bx 89 [.fz .u q1q, .fz .u q2q])]⟩)] [[.ti, .ti, .ti, .tb, .tb, .ti, .tl q1q, .ti, .tb, .ti, .ti, .ti, .tm ⟨.s, true, q0q⟩, .tl q1q, .tl q2q, .tl q1q, .tl q2q], [.ti, .ti, .ti, .tb, .tb, .ti, .tl q1q, .ti, .tb, .ti, .ti, .ti, .tm ⟨.s, true, q0q⟩, .tl q1q, .tl q2q, .tl q1q, .tl q2q]] (.nd) (.nd)))
theorem e10_2 (k : Nat) (y : Tup h10_2) : EX Tryd.f10 A10_2 h10_2 [] R10_2 n10_2 [C17_2 k] k y = F10_2 k y.1 y.2.1 y.2.2.1 y.2.2.2.1 y.2.2.2.2.1 y.2.2.2.2.2.1 y.2.2.2.2.2.2.1 y.2.2.2.2.2.2.2.1 y.2.2.2.2.2.2.2.2.1 y.2.2.2.2.2.2.2.2.2.1 y.2.2.2.2.2.2.2.2.2.2.1 y.2.2.2.2.2.2.2.2.2.2.2.1 y.2.2.2.2.2.2.2.2.2.2.2.2.1 y.2.2.2.2.2.2.2.2.2.2.2.2.2.1 y.2.2.2.2.2.2.2.2.2.2.2.2.2.2.1 y.2.2.2.2.2.2.2.2.2.2.2.2.2.2.2.1 y.2.2.2.2.2.2.2.2.2.2.2.2.2.2.2.2.1 y.2.2.2.2.2.2.2.2.2.2.2.2.2.2.2.2.2.1 y.2.2.2.2.2.2.2.2.2.2.2.2.2.2.2.2.2.2.1 y.2.2.2.2.2.2.2.2.2.2.2.2.2.2.2.2.2.2.2.1 y.2.2.2.2.2.2.2.2.2.2.2.2.2.2.2.2.2.2.2.2.1 y.2.2.2.2.2.2.2.2.2.2.2.2.2.2.2.2.2.2.2.2.2.1 y.2.2.2.2.2.2.2.2.2.2.2.2.2.2.2.2.2.2.2.2.2.2.1 y.2.2.2.2.2.2.2.2.2.2.2.2.2.2.2.2.2.2.2.2.2.2.2.1 y.2.2.2.2.2.2.2.2.2.2.2.2.2.2.2.2.2.2.2.2.2.2.2.2.1 y.2.2.2.2.2.2.2.2.2.2.2.2.2.2.2.2.2.2.2.2.2.2.2.2.2.1 y.2.2.2.2.2.2.2.2.2.2.2.2.2.2.2.2.2.2.2.2.2.2.2.2.2.2.1 y.2.2.2.2.2.2.2.2.2.2.2.2.2.2.2.2.2.2.2.2.2.2.2.2.2.2.2.1 y.2.2.2.2.2.2.2.2.2.2.2.2.2.2.2.2.2.2.2.2.2.2.2.2.2.2.2.2.1 y.2.2.2.2.2.2.2.2.2.2.2.2.2.2.2.2.2.2.2.2.2.2.2.2.2.2.2.2.2.1 y.2.2.2.2.2.2.2.2.2.2.2.2.2.2.2.2.2.2.2.2.2.2.2.2.2.2.2.2.2.2.1 y.2.2.2.2.2.2.2.2.2.2.2.2.2.2.2.2.2.2.2.2.2.2.2.2.2.2.2.2.2.2.2.1 y.2.2.2.2.2.2.2.2.2.2.2.2.2.2.2.2.2.2.2.2.2.2.2.2.2.2.2.2.2.2.2.2.1 y.2.2.2.2.2.2.2.2.2.2.2.2.2.2.2.2.2.2.2.2.2.2.2.2.2.2.2.2.2.2.2.2.2 := by kernel_rfl
noncomputable def C10_2 (k : Nat) : Con Tryd.prog := CK 10 Tryd.func10 (e10_2 k)
noncomputable def F7 (k : Nat) : Option Bool :=
(((F6 k 32 4 4).bind fun y4 => 
sel (fun y5 =>
some (.inl ())) (fun y6 =>
some (.inr (y6.1, y6.2.1, y6.2.2.1, y6.2.2.2.1, y6.2.2.2.2.1, y6.2.2.2.2.2.1, y6.2.2.2.2.2.2.1, y6.2.2.2.2.2.2.2.1, y6.2.2.2.2.2.2.2.2.1, y6.2.2.2.2.2.2.2.2.2.1, y6.2.2.2.2.2.2.2.2.2.2))) y4 : Option (Unit ⊕ (Int × Int × Int × Bool × Bool × Int × t4t × Int × Bool × Int × t3t)))).bind fun y7 => 
sel (fun y8 =>
some false) (fun y9 =>
(((F10 k 14 0 ByteArray.empty ByteArray.empty ([] : List ByteArray) 0 ([] : List Int) 0 0 0 0 0 0 0 ([] : List (ByteArray × Bool × ByteArray × Int)) ([] : List ByteArray) ([] : List ByteArray) y9.1 y9.2.1 y9.2.2.1 y9.2.2.2.1 y9.2.2.2.2.1 y9.2.2.2.2.2.1 y9.2.2.2.2.2.2.1 y9.2.2.2.2.2.2.2.1 y9.2.2.2.2.2.2.2.2.1 y9.2.2.2.2.2.2.2.2.2.1 y9.2.2.2.2.2.2.2.2.2.2).bind fun y15 => 
sel (fun y16 =>
some (y16.1, y16.2.1, y16.2.2.1, y16.2.2.2.1, y16.2.2.2.2.1, y16.2.2.2.2.2.1, y16.2.2.2.2.2.2.1, y16.2.2.2.2.2.2.2.1, y16.2.2.2.2.2.2.2.2.1, y16.2.2.2.2.2.2.2.2.2.1, y16.2.2.2.2.2.2.2.2.2.2.1, y16.2.2.2.2.2.2.2.2.2.2.2)) (fun y17 =>
sel (fun y18 =>
some (y18.1, y18.2.1, y18.2.2.1, y18.2.2.2.1, y18.2.2.2.2.1, y18.2.2.2.2.2.1, y18.2.2.2.2.2.2.1, y18.2.2.2.2.2.2.2.1, y18.2.2.2.2.2.2.2.2.1, y18.2.2.2.2.2.2.2.2.2.1, y18.2.2.2.2.2.2.2.2.2.2.1, y18.2.2.2.2.2.2.2.2.2.2.2)) (fun y19 =>
none) y17) y15 : Option t9t)).bind fun y20 => 
(((F10 k 1 0 ByteArray.empty ByteArray.empty ([] : List ByteArray) 0 ([] : List Int) 0 0 0 0 1 0 0 ([] : List (ByteArray × Bool × ByteArray × Int)) ([] : List ByteArray) ([] : List ByteArray) y20.2.1 y20.2.2.1 y20.2.2.2.1 y20.2.2.2.2.1 y20.2.2.2.2.2.1 y20.2.2.2.2.2.2.1 y20.2.2.2.2.2.2.2.1 y20.2.2.2.2.2.2.2.2.1 y20.2.2.2.2.2.2.2.2.2.1 y20.2.2.2.2.2.2.2.2.2.2.1 y20.2.2.2.2.2.2.2.2.2.2.2).bind fun y26 => 
sel (fun y27 =>
none) (fun y28 =>
sel (fun y29 =>
none) (fun y30 =>
some (y30.1, y30.2.1, y30.2.2.1, y30.2.2.2.1, y30.2.2.2.2.1, y30.2.2.2.2.2.1, y30.2.2.2.2.2.2.1, y30.2.2.2.2.2.2.2.1, y30.2.2.2.2.2.2.2.2.1, y30.2.2.2.2.2.2.2.2.2.1, y30.2.2.2.2.2.2.2.2.2.2.1, y30.2.2.2.2.2.2.2.2.2.2.2.1, y30.2.2.2.2.2.2.2.2.2.2.2.2.1, y30.2.2.2.2.2.2.2.2.2.2.2.2.2.1, y30.2.2.2.2.2.2.2.2.2.2.2.2.2.2)) y28) y26 : Option t7t)).bind fun y31 => 
(((F10_1 k 1 0 ByteArray.empty ByteArray.empty ([] : List ByteArray) 0 ([] : List Int) 0 0 0 0 7 0 0 ([] : List (ByteArray × Bool × ByteArray × Int)) ([] : List ByteArray) ([] : List ByteArray) y31.2.1 y31.2.2.1 y31.2.2.2.1 y31.2.2.2.2.1 y31.2.2.2.2.2.1 y31.2.2.2.2.2.2.1 y31.2.2.2.2.2.2.2.1 y31.2.2.2.2.2.2.2.2.1 y31.2.2.2.2.2.2.2.2.2.1 y31.2.2.2.2.2.2.2.2.2.2.1 y31.2.2.2.2.2.2.2.2.2.2.2.1 y31.2.2.2.2.2.2.2.2.2.2.2.2.1 y31.2.2.2.2.2.2.2.2.2.2.2.2.2.1 y31.2.2.2.2.2.2.2.2.2.2.2.2.2.2).bind fun y39 => 
sel (fun y40 =>
none) (fun y41 =>
sel (fun y42 =>
none) (fun y43 =>
sel (fun y44 =>
none) (fun y45 =>
some (y45.1, y45.2.1, y45.2.2.1, y45.2.2.2.1, y45.2.2.2.2.1, y45.2.2.2.2.2.1, y45.2.2.2.2.2.2.1, y45.2.2.2.2.2.2.2.1, y45.2.2.2.2.2.2.2.2.1, y45.2.2.2.2.2.2.2.2.2.1, y45.2.2.2.2.2.2.2.2.2.2.1, y45.2.2.2.2.2.2.2.2.2.2.2.1, y45.2.2.2.2.2.2.2.2.2.2.2.2.1, y45.2.2.2.2.2.2.2.2.2.2.2.2.2.1, y45.2.2.2.2.2.2.2.2.2.2.2.2.2.2.1, y45.2.2.2.2.2.2.2.2.2.2.2.2.2.2.2.1, y45.2.2.2.2.2.2.2.2.2.2.2.2.2.2.2.2.1, y45.2.2.2.2.2.2.2.2.2.2.2.2.2.2.2.2.2)) y43) y41) y39 : Option t8t)).bind fun y46 => 
cond y20.1 (
cond y31.1 (
cond (!y46.1) (
(F10_2 k 11 0 ByteArray.empty ByteArray.empty ([] : List ByteArray) 0 ([] : List Int) 0 0 0 0 0 0 0 ([] : List (ByteArray × Bool × ByteArray × Int)) ([] : List ByteArray) ([] : List ByteArray) y46.2.1 y46.2.2.1 y46.2.2.2.1 y46.2.2.2.2.1 y46.2.2.2.2.2.1 y46.2.2.2.2.2.2.1 y46.2.2.2.2.2.2.2.1 y46.2.2.2.2.2.2.2.2.1 y46.2.2.2.2.2.2.2.2.2.1 y46.2.2.2.2.2.2.2.2.2.2.1 y46.2.2.2.2.2.2.2.2.2.2.2.1 y46.2.2.2.2.2.2.2.2.2.2.2.2.1 y46.2.2.2.2.2.2.2.2.2.2.2.2.2.1 y46.2.2.2.2.2.2.2.2.2.2.2.2.2.2.1 y46.2.2.2.2.2.2.2.2.2.2.2.2.2.2.2.1 y46.2.2.2.2.2.2.2.2.2.2.2.2.2.2.2.2.1 y46.2.2.2.2.2.2.2.2.2.2.2.2.2.2.2.2.2).bind fun y47 => 
sel (fun y48 =>
some (!y48.1)) (fun y49 =>
some (!y49.1)) y47) (
some false)) (
some false)) (
some false)) y7
def A7 : CTpl := ⟨[], []⟩
def h7 : List HTy := []
def R7 : List RTpl := [⟨.b, [], [.tb]⟩]
def n7 : An := .sq (.nd) (.jn [] [] [(0, ⟨[(1, .c (.pointer none))], []⟩), (0, ⟨[(1, .pt 300110 0)], [(300110, .bx 53 [.i .i64, .i .i64, .i .i64, .b, .pt 300111 0, .b, .mp 300112, .i .i64, .fz .u q1q, .i .u32, .b, .i .i64]), (300111, .bx 59 [.mp 300113]), (300112, .bx 3000000 []), (300113, .mp ⟨.s, true, q0q⟩)]⟩)] [[], [.ti, .ti, .ti, .tb, .tb, .ti, .tl q1q, .ti, .tb, .ti, .tm ⟨.s, true, q0q⟩]] (.nd) (.sq (.nd) (.jn [1] [] [(0, ⟨[(2, .b)], [(300110, .bx 53 [.i .i64, .i .i64, .i .i64, .b, .pt 300111 0, .b, .mp 300112, .i .i64, .fz .u q1q, .i .u32, .b, .i .i64]), (300111, .bx 59 [.mp 300113]), (300112, .bx 3000000 []), (300113, .mp ⟨.s, true, q0q⟩)]⟩)] [[.tb, .ti, .ti, .ti, .tb, .tb, .ti, .tl q1q, .ti, .tb, .ti, .tm ⟨.s, true, q0q⟩]] (.nd) (.jn [1, 2] [] [(0, ⟨[(3, .b)], [(300110, .bx 53 [.i .i64, .i .i64, .i .i64, .b, .pt 300111 0, .b, .mp 300112, .i .i64, .fz .u q1q, .i .u32, .b, .i .i64]), (300111, .bx 59 [.mp 300113]), (300112, .bx 3000000 [.i .i64, .pt 300700 0]), (300113, .mp ⟨.s, true, q0q⟩), (300700, .bx 89 [.fz .u q1q, .fz .u q2q])]⟩)] [[.tb, .ti, .ti, .ti, .tb, .tb, .ti, .tl q1q, .ti, .tb, .ti, .ti, .tm ⟨.s, true, q0q⟩, .tl q1q, .tl q2q]] (.nd) (.jn [1, 2, 3] [] [(0, ⟨[(4, .b)], [(300110, .bx 53 [.i .i64, .i .i64, .i .i64, .b, .pt 300111 0, .b, .mp 300112, .i .i64, .fz .u q1q, .i .u32, .b, .i .i64]), (300111, .bx 59 [.mp 300113]), (300112, .bx 3000000 [.i .i64, .pt 300700 0, .i .i64, .pt 300800 0]), (300113, .mp ⟨.s, true, q0q⟩), (300700, .bx 89 [.fz .u q1q, .fz .u q2q]), (300800, .bx 89 [.fz .u q1q, .fz .u q2q])]⟩)] [[.tb, .ti, .ti, .ti, .tb, .tb, .ti, .tl q1q, .ti, .tb, .ti, .ti, .ti, .tm ⟨.s, true, q0q⟩, .tl q1q, .tl q2q, .tl q1q, .tl q2q]] (.nd) (.nd))))))
theorem e7 (k : Nat) (y : Tup h7) : EX Tryd.f7 A7 h7 [] R7 n7 [C6 k, C10 k, C10_1 k, C10_2 k] k y = F7 k := by kernel_rfl
noncomputable def C7 (k : Nat) : Con Tryd.prog := CK 7 Tryd.func7 (e7 k)
noncomputable def F12 (k : Nat) (x1 : Int) (x2 : Int) (x3 : Int) : Option Bool :=
cond (decide (32 ≤ x1)) (
cond (decide (x1 ≤ 128)) (
cond (decide (3 ≤ x2)) (
cond (decide (x2 ≤ 10)) (
cond (decide (4 ≤ x3)) (
some (decide (x3 ≤ 12))) (
some false)) (
some false)) (
some false)) (
some false)) (
some false)
def A12 : CTpl := ⟨[.ag [.i .i64, .i .i64, .i .i64]], []⟩
def h12 : List HTy := [.ti, .ti, .ti]
def R12 : List RTpl := [⟨.b, [], [.tb]⟩]
def n12 : An := .nd
theorem e12 (k : Nat) (y : Tup h12) : EX Tryd.f12 A12 h12 [] R12 n12 [] k y = F12 k y.1 y.2.1 y.2.2 := by kernel_rfl
noncomputable def C12 (k : Nat) : Con Tryd.prog := CK 12 Tryd.func12 (e12 k)
noncomputable def F13 (k : Nat) (x1 : Int) (x2 : Int) (x3 : Int) (x4 : Bool) (x5 : Bool) (x6 : Int) (x7 : t4t) (x8 : Int) (x9 : Bool) (x10 : Int) (x11 : t3t) : Option Int :=
some x10
def A13 : CTpl := ⟨[.pt 1000000 0], [(1000000, .bx 53 [.i .i64, .i .i64, .i .i64, .b, .pt 1000001 0, .b, .mp 1000002, .i .i64, .fz .u q1q, .i .u32, .b, .i .i64]), (1000001, .bx 59 [.mp 1000003]), (1000002, .bx 3000000 []), (1000003, .mp ⟨.s, true, q0q⟩)]⟩
def h13 : List HTy := [.ti, .ti, .ti, .tb, .tb, .ti, .tl q1q, .ti, .tb, .ti, .tm ⟨.s, true, q0q⟩]
def R13 : List RTpl := [⟨.i .i64, [], [.ti]⟩]
def n13 : An := .nd
theorem e13 (k : Nat) (y : Tup h13) : EX Tryd.f13 A13 h13 [1000000, 1000001, 1000002, 1000003] R13 n13 [] k y = F13 k y.1 y.2.1 y.2.2.1 y.2.2.2.1 y.2.2.2.2.1 y.2.2.2.2.2.1 y.2.2.2.2.2.2.1 y.2.2.2.2.2.2.2.1 y.2.2.2.2.2.2.2.2.1 y.2.2.2.2.2.2.2.2.2.1 y.2.2.2.2.2.2.2.2.2.2 := by kernel_rfl
noncomputable def C13 (k : Nat) : Con Tryd.prog := CK 13 Tryd.func13 (e13 k)
noncomputable def F4 (k : Nat) (x1 : Int) (x2 : Int) (x3 : Int) (x4 : Bool) : Option Bool :=
((cond x4 (
(F5 k x1 x2 x3).bind fun y2 => 
some (y2.1, y2.2.1, y2.2.2)) (
some (x1, x2, x3)) : Option (Int × Int × Int))).bind fun y3 => 
(((F6 k y3.1 y3.2.1 y3.2.2).bind fun y7 => 
sel (fun y8 =>
some (.inl ())) (fun y9 =>
some (.inr (y9.1, y9.2.1, y9.2.2.1, y9.2.2.2.1, y9.2.2.2.2.1, y9.2.2.2.2.2.1, y9.2.2.2.2.2.2.1, y9.2.2.2.2.2.2.2.1, y9.2.2.2.2.2.2.2.2.1, y9.2.2.2.2.2.2.2.2.2.1, y9.2.2.2.2.2.2.2.2.2.2))) y7 : Option (Unit ⊕ (Int × Int × Int × Bool × Bool × Int × t4t × Int × Bool × Int × t3t)))).bind fun y10 => 
sel (fun y11 =>
(((F7 k).bind fun y19 => 
cond (!y19) (
some true) (
(F12 k y3.1 y3.2.1 y3.2.2).bind fun y20 => 
some (!y20)) : Option Bool)).bind fun y21 => 
cond y21 (
(F7 k).bind fun y22 => 
cond y22 (
some true) (
some false)) (
some false)) (fun y12 =>
(((F7 k).bind fun y29 => 
cond (!y29) (
some true) (
(F12 k y3.1 y3.2.1 y3.2.2).bind fun y30 => 
some (!y30)) : Option Bool)).bind fun y31 => 
cond y31 (
(F7 k).bind fun y32 => 
cond y32 (
some false) (
some false)) (
(F13 k y12.1 y12.2.1 y12.2.2.1 y12.2.2.2.1 y12.2.2.2.2.1 y12.2.2.2.2.2.1 y12.2.2.2.2.2.2.1 y12.2.2.2.2.2.2.2.1 y12.2.2.2.2.2.2.2.2.1 y12.2.2.2.2.2.2.2.2.2.1 y12.2.2.2.2.2.2.2.2.2.2).bind fun y33 => 
cond (y33 == 0) (
(F14 k y12.1 y12.2.1 y12.2.2.1 y12.2.2.2.1 y12.2.2.2.2.1 y12.2.2.2.2.2.1 y12.2.2.2.2.2.2.1 y12.2.2.2.2.2.2.2.1 y12.2.2.2.2.2.2.2.2.1 y12.2.2.2.2.2.2.2.2.2.1 y12.2.2.2.2.2.2.2.2.2.2).bind fun y34 => 
cond ((y34.2.length : Int) == 0) (
(F10 k 7 0 ByteArray.empty ByteArray.empty ([] : List ByteArray) 0 ([] : List Int) 0 0 0 6 0 0 0 ([] : List (ByteArray × Bool × ByteArray × Int)) ([] : List ByteArray) ([] : List ByteArray) y12.1 y12.2.1 y12.2.2.1 y12.2.2.2.1 y12.2.2.2.2.1 y12.2.2.2.2.2.1 y12.2.2.2.2.2.2.1 y12.2.2.2.2.2.2.2.1 y12.2.2.2.2.2.2.2.2.1 y12.2.2.2.2.2.2.2.2.2.1 y34.1).bind fun y35 => 
sel (fun y36 =>
some y36.1) (fun y37 =>
sel (fun y38 =>
some y38.1) (fun y39 =>
some y39.1) y37) y35) (
some false)) (
some false))) y10
def A4 : CTpl := ⟨[.ag [.i .i64, .i .i64, .i .i64], .b], []⟩
def h4 : List HTy := [.ti, .ti, .ti, .tb]
def R4 : List RTpl := [⟨.b, [], [.tb]⟩]
def n4 : An := .sq (.nd) (.jn [2] [] [(0, ⟨[], [(2, .bx 23 [.i .i64, .i .i64, .i .i64])]⟩)] [[.ti, .ti, .ti]] (.nd) (.jn [2] [2] [(0, ⟨[(5, .c (.pointer none))], []⟩), (0, ⟨[(5, .pt 300410 0)], [(300410, .bx 53 [.i .i64, .i .i64, .i .i64, .b, .pt 300411 0, .b, .mp 300412, .i .i64, .fz .u q1q, .i .u32, .b, .i .i64]), (300411, .bx 59 [.mp 300413]), (300412, .bx 3000000 []), (300413, .mp ⟨.s, true, q0q⟩)]⟩)] [[], [.ti, .ti, .ti, .tb, .tb, .ti, .tl q1q, .ti, .tb, .ti, .tm ⟨.s, true, q0q⟩]] (.nd) (.sq (.al 5 (.jn [5] [] [(0, ⟨[(17, .b)], []⟩)] [[.tb]] (.nd) (.nd)) (.jn [5] [300410, 300411, 300412, 300413] [(0, ⟨[(17, .b)], []⟩)] [[.tb]] (.nd) (.nd))) (.nd))))
theorem e4 (k : Nat) (y : Tup h4) : EX Tryd.f4 A4 h4 [] R4 n4 [C5 k, C6 k, C7 k, C12 k, C13 k, C14 k, C10 k] k y = F4 k y.1 y.2.1 y.2.2.1 y.2.2.2 := by kernel_rfl
noncomputable def C4 (k : Nat) : Con Tryd.prog := CK 4 Tryd.func4 (e4 k)
end Go.Proofs.YtobfoiomjfdjjaaDoor.N

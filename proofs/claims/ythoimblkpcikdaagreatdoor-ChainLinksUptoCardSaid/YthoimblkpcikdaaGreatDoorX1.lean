/- What the functions compute, natively, and that they do. Printed by a program (wip/xg). -/
import Derived.Test.YthoimblkpcikdaaGreatDoorMc4
import Derived.Test.YthoimblkpcikdaaGreatDoorProg
import Derived.Test.YthoimblkpcikdaaGreatDoorShelf
import Derived.Test.YthoimblkpcikdaaGreatDoorBld
namespace Go.Proofs.YthoimblkpcikdaaGreatDoor.N
open Go Go.RowKit Go.Proofs.YthoimblkpcikdaaGreatDoor.Mc Go.Proofs
set_option maxRecDepth 100000
set_option maxHeartbeats 0
set_option linter.unusedVariables false
noncomputable abbrev D:=LP Tryz.prog
theorem sx:Go.Proofs.YthoimblkpcikdaaGreatDoor.Mc.Good Tryz.prog D:=eO _
theorem mixed:Tryz.prog.follows .mixedOrders=true:=by kernel_rfl
def mb:List (Nat × Row):=[(26,(.int .i64 (.int .u32 (.sl (.int .i64 (.int .u32 (.int .u32 (.str .nil)))) (.bool .nil))))),(32,(.int .u32 (.int .u32 (.int .u32 (.sl (.str (.bool (.str .nil))) (.sl (.int .i64 (.int .i64 .nil)) .nil)))))),(33,(.int .i64 .nil)),(42,(.str (.bool (.str .nil)))),(45,(.int .i64 (.int .i64 .nil))),(48,(.int .i64 (.int .u32 (.int .u32 (.str .nil))))),(81,(.bool .nil)),(89,(.int .i64 (.int .u32 (.int .u32 (.str (.int .u32 (.int .i64 (.int .i64 .nil)))))))),(111,(.int .u8 .nil)),(124,(.int .i64 (.int .u32 (.sl (.int .i64 (.int .u32 (.int .u32 (.str .nil)))) (.bool .nil))))),(180,(.str .nil)),(300,(.int .i32 .nil))]
def DC:List ByteArray:=[(⟨#[97]⟩:ByteArray),(⟨#[98]⟩:ByteArray),(⟨#[99]⟩:ByteArray),(⟨#[97,98]⟩:ByteArray),(⟨#[107,49]⟩:ByteArray),(⟨#[107,50]⟩:ByteArray),(⟨#[107,51]⟩:ByteArray),(⟨#[195,169]⟩:ByteArray),(⟨#[195,169,97]⟩:ByteArray),(⟨#[240,159,152,128]⟩:ByteArray),(⟨#[42]⟩:ByteArray),(⟨#[122,122]⟩:ByteArray)]
abbrev Cq:Row:=.int .u32 (.int .u32 (.int .u32 (.sl (.str (.bool (.str .nil))) (.sl (.int .i64 (.int .i64 .nil)) .nil))))
abbrev Cr:Row:=.int .i64 (.int .u32 (.sl (.int .i64 (.int .u32 (.int .u32 (.str .nil)))) (.bool .nil)))
abbrev DS:Row:=.int .i64 (.int .u32 (.int .u32 (.str .nil)))
abbrev Br:Row:=.int .i64 .nil
abbrev CI:Row:=.str (.bool (.str .nil))
abbrev ZT:Row:=.int .i64 (.int .u32 (.int .u32 (.str (.int .u32 (.int .i64 Br)))))
abbrev iR:Row:=.int .u32 (.int .u32 (.int .u32 (.sl (.int .i64 (.bool (.str .nil))) Br)))
abbrev Dr:Row:=.int .i64 Br
abbrev GD:Row:=.int .u8 .nil
abbrev Ct:Type:=Int × Int × Int × (List (ByteArray × Bool × ByteArray)) × (List (Int × Int))
abbrev BA:Type:=Int × Int × (List (Int × Int × Int × ByteArray)) × Bool
abbrev Ab:Type:=ByteArray × Bool × ByteArray
abbrev BZ:Type:=Int × Int × Int × ByteArray
abbrev Jv:Type:=List (Int × Int × Int × ByteArray × Int × Int × Int)
abbrev YL:Type:=Unit ⊕ (Int × Int) ⊕ (Int × Int × ByteArray) ⊕ (Int × Int × Int × Int × Int × Int) ⊕ (Int × Int × Int)
variable [Mo]
noncomputable abbrev EX (f:Func)(A:AQ)(h:List Al)(kp:List Nat)(R:List AP)(n:An)(Γ : List (Au Tryz.prog))(k:Nat)(y:Tup h):Option (Eo (R.map (·.h))) :=
 exec (P:=Tryz.prog) D (lk mb) Γ k (WA f) n (Zl f A kp (Fp A (Bd h y))) (js kp (Fp A (Bd h y))) (au D (Zl f A kp (Fp A (Bd h y))) f.results.toList (R.map (·.h)) R)
noncomputable def CK {k:Nat}(i:FuncId){f:Func}(hf:Tryz.prog.funcs[i]? = some f){A:AQ}{h:List Al}{kp:List Nat}{R:List AP}{n:An}{Γ : List (Au Tryz.prog)}{F:Tup h->Option (Eo (R.map (·.h)))}(e:∀ y,EX f A h kp R n Γ k y=F y)(h1:(f.name == "runtime.NumGoroutine")=false:=by kernel_rfl)(h2:f.body.isSome=true:=by kernel_rfl)(h3:f.body=some (WA f):=by kernel_rfl):Au Tryz.prog :=
 ⟨i,f,hf,h1,h2,A,h,kp,R,F,fun y _ hr=>jt sx mixed (c:=WA f) hf h3 n y ((e y).trans hr)⟩
noncomputable def dU (k:Nat)(x1:Int)(x2:Int):Option Int :=
Ao (x2 != 0) <|
((cond (decide ((x1.tmod x2) < 0)) (
some (IntKind.wrap .i64 ((x1.tmod x2)+x2))) (
some (x1.tmod x2)):Option Int)).bind fun y1 =>
some y1
def A18:AQ:=⟨[.i .i64,.i .i64],[]⟩
def vW:List Al:=[.ti,.ti]
def R18:List AP:=[⟨.i .i64,[],[.ti]⟩]
def n18:An:=.sq (.nd) (.sq (.nd) (.jn [] [] [(0,⟨[(0,.i .i64)],[]⟩)] [[.ti]] (.nd) (.nd)))
theorem e18 (k:Nat)(y:Tup vW):EX Tryz.f18 A18 vW [] R18 n18 [] k y=dU k y.1 y.2:=by kernel_rfl
noncomputable def sX (k:Nat):Au Tryz.prog:=CK 18 Tryz.func18 (e18 k)
noncomputable def F8 (k:Nat)(x1:Int)(x2:Int)(x3:Int):Option (Int × Int × Int) :=
(dU k x1 33).bind fun y1 =>
(dU k x2 4).bind fun y2 =>
(dU k x3 4).bind fun y3 =>
some ((IntKind.wrap .i64 (32+y1)),(IntKind.wrap .i64 (3+y2)),(IntKind.wrap .i64 (4+y3)))
def A8:AQ:=⟨[.ag [.i .i64,.i .i64,.i .i64]],[]⟩
def h8:List Al:=[.ti,.ti,.ti]
def R8:List AP:=[⟨.ag [.i .i64,.i .i64,.i .i64],[],[.ti,.ti,.ti]⟩]
def n8:An:=.sq (.nd) (.sq (.mk [] [0,1,3,7,0,16,55,119,0,256,887,1911,4095,8191]) (.nd))
theorem e8 (k:Nat)(y:Tup h8):EX Tryz.f8 A8 h8 [] R8 n8 [sX k] k y=F8 k y.1 y.2.1 y.2.2:=by kernel_rfl
noncomputable def C8 (k:Nat):Au Tryz.prog:=CK 8 Tryz.func8 (e8 k)
noncomputable def gB (k:Nat)(x1:Int):Option ByteArray :=
some (strOfNums [(IntKind.wrap .u8 (bits .and .u32 x1 255)),(IntKind.wrap .u8 (bits .and .u32 (x1.fdiv (2 ^ 8)) 255)),(IntKind.wrap .u8 (bits .and .u32 (x1.fdiv (2 ^ 16)) 255)),(IntKind.wrap .u8 (x1.fdiv (2 ^ 24)))])
def A19:AQ:=⟨[.i .u32],[]⟩
def uu:List Al:=[.ti]
def R19:List AP:=[⟨.s,[],[.ts]⟩]
def n19:An:=.nd
theorem e19 (k:Nat)(y:Tup uu):EX Tryz.f19 A19 uu [] R19 n19 [] k y=gB k y:=by kernel_rfl
noncomputable def vy (k:Nat):Au Tryz.prog:=CK 19 Tryz.func19 (e19 k)
noncomputable def pw (k:Nat)(x1:Int):Option ByteArray :=
(dU k x1 12).bind fun y1 =>
(ix DC y1).bind fun a2 =>
some a2
def A68:AQ:=⟨[.i .i64],[]⟩
def vJ:List Al:=[.ti]
def R68:List AP:=[⟨.s,[],[.ts]⟩]
def n68:An:=.nd
theorem e68 (k:Nat)(y:Tup vJ):EX Tryz.f68 A68 vJ [] R68 n68 [sX k] k y=pw k y:=by kernel_rfl
noncomputable def C68 (k:Nat):Au Tryz.prog:=CK 68 Tryz.func68 (e68 k)
noncomputable def pD (k:Nat)(x1:Int)(z21:(Int × (List Int))):Option ((Int × (List Int)) ⊕ (List Int)) :=
cond (decide (z21.1 < (z21.2.length:Int))) (
(ix z21.2 z21.1).bind fun a22 =>
((z21.2[z21.1.toNat]?).bind fun a23=>some x1).bind fun a24 =>
some (.inl ((IntKind.wrap .i64 (z21.1+1)),(z21.2.set z21.1.toNat a24)))) (
some (.inr z21.2))
noncomputable def qW (k:Nat)(x1:Int)(x2:Int):Option ByteArray :=
Ao (decide (0<=(mx x2 0)/\(mx x2 0)<=9223372036854775807/\1 * ((mx x2 0).toNat)<=281474976710656)) <|
(AB (pD k x1) k (0,(List.replicate ((mx x2 0).toNat) 0))).bind fun y25 =>
some (strOfNums y25)
def A51:AQ:=⟨[.i .u8,.i .i64],[]⟩
def wF:List Al:=[.ti,.ti]
def R51:List AP:=[⟨.s,[],[.ts]⟩]
def n51:An:=.sq (.nd) (.sq (.nd) (.sq (.sq (.nd) (.lp [0,5] [] ⟨[(6,.i .i64)],[(9,.ar 5 GD)]⟩ [.ti,.tl GD] [(2,⟨[],[(9,.ar 5 GD)]⟩)] [[.tl GD]] (.nd))) (.nd)))
theorem e51 (k:Nat)(y:Tup wF):EX Tryz.f51 A51 wF [] R51 n51 [] k y=qW k y.1 y.2:=by kernel_rfl
noncomputable def C51 (k:Nat):Au Tryz.prog:=CK 51 Tryz.func51 (e51 k)
noncomputable def lK (k:Nat)(x1:ByteArray)(x2:Int):Option ByteArray :=
Ao (Bn (x1.size:Int) 0 (mn (x1.size:Int) x2)) <|
some (x1.extract 0 ((mn (x1.size:Int) x2).toNat))
def A25:AQ:=⟨[.s,.i .i64],[]⟩
def ux:List Al:=[.ts,.ti]
def R25:List AP:=[⟨.s,[],[.ts]⟩]
def n25:An:=.nd
theorem e25 (k:Nat)(y:Tup ux):EX Tryz.f25 A25 ux [] R25 n25 [] k y=lK k y.1 y.2:=by kernel_rfl
noncomputable def C25 (k:Nat):Au Tryz.prog:=CK 25 Tryz.func25 (e25 k)
noncomputable def pW (k:Nat)(x1:ByteArray)(x2:Int):Option ByteArray :=
(((dU k x2 9).bind fun y4 =>
cond (y4 == 8) (
(qW k 120 40).bind fun y5 =>
Ao (decide (x1.size+y5.size<=9223372036854775807)) <|
some (x1 ++ y5)) (
some x1):Option ByteArray)).bind fun y6 =>
(lK k y6 48).bind fun y7 =>
some y7
def A69:AQ:=⟨[.s,.i .i64],[]⟩
def ui:List Al:=[.ts,.ti]
def R69:List AP:=[⟨.s,[],[.ts]⟩]
def n69:An:=.sq (.nd) (.jn [] [] [(0,⟨[(0,.s)],[]⟩)] [[.ts]] (.nd) (.nd))
theorem e69 (k:Nat)(y:Tup ui):EX Tryz.f69 A69 ui [] R69 n69 [sX k,C51 k,C25 k] k y=pW k y.1 y.2:=by kernel_rfl
noncomputable def C69 (k:Nat):Au Tryz.prog:=CK 69 Tryz.func69 (e69 k)
noncomputable def KN (k:Nat)(x1:ByteArray)(x2:Int)(x3:Int)(x4:Int):Option Bool :=
cond (decide (x2 < (x1.size:Int))) (
Ao (decide (0<=x2/\x2 < (x1.size:Int))) <|
cond (decide (x3<=(bt x1 x2))) (
Ao (decide (0<=x2/\x2 < (x1.size:Int))) <|
some (decide ((bt x1 x2)<=x4))) (
some false)) (
some false)
def sR:AQ:=⟨[.s,.i .i64,.i .u8,.i .u8],[]⟩
def mv:List Al:=[.ts,.ti,.ti,.ti]
def sF:List AP:=[⟨.b,[],[.tb]⟩]
def n192:An:=.nd
theorem rO (k:Nat)(y:Tup mv):EX Tryz.f192 sR mv [] sF n192 [] k y=KN k y.1 y.2.1 y.2.2.1 y.2.2.2:=by kernel_rfl
noncomputable def qZ (k:Nat):Au Tryz.prog:=CK 192 Tryz.func192 (rO k)
noncomputable def fF (k:Nat)(x1:ByteArray)(x2:Int):Option (Int × Int) :=
Ao (decide (0<=x2/\x2 < (x1.size:Int))) <|
cond (decide ((bt x1 x2) < 128)) (
some ((IntKind.wrap .i64 (bt x1 x2)),1)) (
((cond (decide (194<=(bt x1 x2))) (
cond (decide ((bt x1 x2)<=223)) (
(KN k x1 (IntKind.wrap .i64 (x2+1)) 128 191).bind fun y4 =>
some y4) (
some false)) (
some false):Option Bool)).bind fun y5 =>
cond y5 (
Ao (decide (0<=(IntKind.wrap .i64 (x2+1))/\(IntKind.wrap .i64 (x2+1)) < (x1.size:Int))) <|
some ((IntKind.wrap .i64 ((IntKind.wrap .i64 ((IntKind.wrap .i64 (bits .and .u8 (bt x1 x2) 31)) * 64))+(IntKind.wrap .i64 (bits .and .u8 (bt x1 (IntKind.wrap .i64 (x2+1))) 63)))),2)) (
((cond ((bt x1 x2) == 224) (
some (160,191)) (
cond ((bt x1 x2) == 237) (
some (128,159)) (
cond ((bt x1 x2) == 240) (
some (144,191)) (
cond ((bt x1 x2) == 244) (
some (128,143)) (
some (128,191))))):Option (Int × Int))).bind fun y6 =>
((cond (decide (224<=(bt x1 x2))) (
cond (decide ((bt x1 x2)<=239)) (
(KN k x1 (IntKind.wrap .i64 (x2+1)) y6.1 y6.2).bind fun y12 =>
cond y12 (
(KN k x1 (IntKind.wrap .i64 (x2+2)) 128 191).bind fun y13 =>
some y13) (
some false)) (
some false)) (
some false):Option Bool)).bind fun y14 =>
cond y14 (
Ao (decide (0<=(IntKind.wrap .i64 (x2+1))/\(IntKind.wrap .i64 (x2+1)) < (x1.size:Int))) <|
Ao (decide (0<=(IntKind.wrap .i64 (x2+2))/\(IntKind.wrap .i64 (x2+2)) < (x1.size:Int))) <|
some ((IntKind.wrap .i64 ((IntKind.wrap .i64 ((IntKind.wrap .i64 ((IntKind.wrap .i64 (bits .and .u8 (bt x1 x2) 15)) * 4096))+(IntKind.wrap .i64 ((IntKind.wrap .i64 (bits .and .u8 (bt x1 (IntKind.wrap .i64 (x2+1))) 63)) * 64))))+(IntKind.wrap .i64 (bits .and .u8 (bt x1 (IntKind.wrap .i64 (x2+2))) 63)))),3)) (
((cond (decide (240<=(bt x1 x2))) (
cond (decide ((bt x1 x2)<=244)) (
(KN k x1 (IntKind.wrap .i64 (x2+1)) y6.1 y6.2).bind fun y22 =>
cond y22 (
(KN k x1 (IntKind.wrap .i64 (x2+2)) 128 191).bind fun y23 =>
cond y23 (
(KN k x1 (IntKind.wrap .i64 (x2+3)) 128 191).bind fun y24 =>
some y24) (
some false)) (
some false)) (
some false)) (
some false):Option Bool)).bind fun y25 =>
cond y25 (
Ao (decide (0<=(IntKind.wrap .i64 (x2+1))/\(IntKind.wrap .i64 (x2+1)) < (x1.size:Int))) <|
Ao (decide (0<=(IntKind.wrap .i64 (x2+2))/\(IntKind.wrap .i64 (x2+2)) < (x1.size:Int))) <|
Ao (decide (0<=(IntKind.wrap .i64 (x2+3))/\(IntKind.wrap .i64 (x2+3)) < (x1.size:Int))) <|
some ((IntKind.wrap .i64 ((IntKind.wrap .i64 ((IntKind.wrap .i64 ((IntKind.wrap .i64 ((IntKind.wrap .i64 (bits .and .u8 (bt x1 x2) 7)) * 262144))+(IntKind.wrap .i64 ((IntKind.wrap .i64 (bits .and .u8 (bt x1 (IntKind.wrap .i64 (x2+1))) 63)) * 4096))))+(IntKind.wrap .i64 ((IntKind.wrap .i64 (bits .and .u8 (bt x1 (IntKind.wrap .i64 (x2+2))) 63)) * 64))))+(IntKind.wrap .i64 (bits .and .u8 (bt x1 (IntKind.wrap .i64 (x2+3))) 63)))),4)) (
some (65533,1)))))
def sU:AQ:=⟨[.s,.i .i64],[]⟩
def oO:List Al:=[.ts,.ti]
def qN:List AP:=[⟨.tp [.i .i64,.i .i64],[],[.ti,.ti]⟩]
def n181:An:=.sq (.nd) (.sq (.nd) (.sq (.sq (.nd) (.sq (.nd) (.jn [0,1,6] [] [(0,⟨[(17,.b)],[]⟩)] [[.tb]] (.nd) (.nd)))) (.sq (.nd) (.jn [0,1,6] [] [(0,⟨[(7,.i .u8),(8,.i .u8)],[]⟩)] [[.ti,.ti]] (.nd) (.sq (.jn [0,1,6,7,8] [] [(0,⟨[(69,.b)],[]⟩)] [[.tb]] (.nd) (.sq (.sq (.mk [] [0,1,3,7,0,0,32,112,240,496,1008,2047,0,0,8192,28672,61440,126976,262143,524287,1048575]) (.nd)) (.nd))) (.sq (.jn [0,1,6] [] [(0,⟨[(114,.b)],[]⟩)] [[.tb]] (.nd) (.sq (.sq (.mk [] [0,1,3,7,0,0,32,112,240,496,1008,2047,0,0,8192,28672,61440,126976,258048,524287,0,0,2097152,7340032,15728640,32505856,67108863,134217727,268435455]) (.nd)) (.nd))) (.nd)))))))
theorem qJ (k:Nat)(y:Tup oO):EX Tryz.f181 sU oO [] qN n181 [qZ k] k y=fF k y.1 y.2:=by kernel_rfl
noncomputable def rk (k:Nat):Au Tryz.prog:=CK 181 Tryz.func181 (qJ k)
noncomputable def Rj (k:Nat)(x1:ByteArray)(z8:(Int × (List Int) × (List Int))):Option ((Int × (List Int) × (List Int)) ⊕ ((List Int) × (List Int))) :=
cond (decide (z8.1 < (x1.size:Int))) (
(fF k x1 z8.1).bind fun y9 =>
Ao (decide ((z8.2.1.length+[y9.1].length) * 8<=140737488355328)) <|
Ao (decide ((z8.2.2.length+[y9.2].length) * 8<=140737488355328)) <|
some (.inl ((IntKind.wrap .i64 (z8.1+y9.2)),(z8.2.1 ++ [y9.1]),(z8.2.2 ++ [y9.2])))) (
some (.inr (z8.2.1,z8.2.2)))
noncomputable def UP (k:Nat)(x1:ByteArray):Option ((List Int) × (List Int)) :=
(AB (Rj k x1) k (0,([]:List Int),([]:List Int))).bind fun y10 =>
some (y10.1,y10.2)
def pz:AQ:=⟨[.s],[]⟩
def ni:List Al:=[.ts]
def qt:List AP:=[⟨.tp [.sl .u 500000,.sl .u 500001],[(500000,.ar 3 Br),(500001,.ar 3 Br)],[.tl Br,.tl Br]⟩]
def n157:An:=.sq (.nd) (.sq (.nd) (.sq (.sq (.nd) (.lp [0] [] ⟨[(4,.sl .n 300400),(5,.sl .n 300401),(6,.i .i64)],[(300400,.ar 3 Br),(300401,.ar 3 Br)]⟩ [.ti,.tl Br,.tl Br] [(2,⟨[(4,.sl .n 300425),(5,.sl .n 300426)],[(300425,.ar 3 Br),(300426,.ar 3 Br)]⟩)] [[.tl Br,.tl Br]] (.nd))) (.nd)))
theorem rZ (k:Nat)(y:Tup ni):EX Tryz.f157 pz ni [] qt n157 [rk k] k y=UP k y:=by kernel_rfl
noncomputable def jg (k:Nat):Au Tryz.prog:=CK 157 Tryz.func157 (rZ k)
noncomputable def RJ (k:Nat)(y2:((List Int) × (List Int)))(y4:((List Int) × (List Int)))(z40:Int):Option (Int ⊕ Int) :=
((cond (decide (z40 < (y2.1.length:Int))) (
cond (decide (z40 < (y4.1.length:Int))) (
(ix y2.1 z40).bind fun a41 =>
(y2.1[z40.toNat]?).bind fun a42 =>
(ix y4.1 z40).bind fun a43 =>
(y4.1[z40.toNat]?).bind fun a44 =>
some (a42 == a44)) (
some false)) (
some false):Option Bool)).bind fun y45 =>
cond y45 (
some (.inl (IntKind.wrap .i64 (z40+1)))) (
some (.inr z40))
noncomputable def da (k:Nat)(x1:ByteArray)(x2:ByteArray):Option Int :=
(UP k x1).bind fun y2 =>
(UP k x2).bind fun y4 =>
(AB (RJ k y2 y4) k 0).bind fun y46 =>
some y46
def qn:AQ:=⟨[.s,.s],[]⟩
def oG:List Al:=[.ts,.ts]
def ru:List AP:=[⟨.i .i64,[],[.ti]⟩]
def n182:An:=.sq (.nd) (.sq (.nd) (.sq (.nd) (.sq (.nd) (.sq (.lp [5,7] [401200,401700] ⟨[(9,.i .i64)],[]⟩ [.ti] [(2,⟨[(9,.i .i64)],[]⟩)] [[.ti]] (.sq (.jn [9] [] [(0,⟨[(40,.b)],[]⟩)] [[.tb]] (.mk [] [0,0,2,7,15,31,31,95,255,511,1023,2047,2047,8191,16383,2047,2047,100351,231423,524287,1048575]) (.nd)) (.nd))) (.nd)))))
theorem tk (k:Nat)(y:Tup oG):EX Tryz.f182 qn oG [] ru n182 [jg k] k y=da k y.1 y.2:=by kernel_rfl
noncomputable def qS (k:Nat):Au Tryz.prog:=CK 182 Tryz.func182 (tk k)
noncomputable def cc (k:Nat)(x1:ByteArray)(x2:ByteArray):Option Int :=
(UP k x1).bind fun y2 =>
(UP k x2).bind fun y4 =>
(da k x1 x2).bind fun y6 =>
((cond (y6 == (y2.1.length:Int)) (
some (y6 == (y4.1.length:Int))) (
some false):Option Bool)).bind fun y12 =>
cond y12 (
some 0) (
cond (y6 == (y2.1.length:Int)) (
some (-1)) (
cond (y6 == (y4.1.length:Int)) (
some 1) (
(ix y2.1 y6).bind fun a13 =>
(y2.1[y6.toNat]?).bind fun a14 =>
(ix y4.1 y6).bind fun a15 =>
(y4.1[y6.toNat]?).bind fun a16 =>
cond (decide (a14 < a16)) (
some (-1)) (
some 1))))
def qB:AQ:=⟨[.s,.s],[]⟩
def oZ:List Al:=[.ts,.ts]
def tU:List AP:=[⟨.i .i64,[],[.ti]⟩]
def n159:An:=.sq (.nd) (.sq (.nd) (.sq (.nd) (.sq (.nd) (.sq (.jn [5,7,9] [401200,401700] [(0,⟨[(23,.b)],[]⟩)] [[.tb]] (.nd) (.sq (.nd) (.sq (.nd) (.sq (.nd) (.sq (.nd) (.sq (.nd) (.sq (.mk [] [0,0,3,7,0,0,48,112,255,511]) (.nd)))))))) (.nd)))))
theorem ql (k:Nat)(y:Tup oZ):EX Tryz.f159 qB oZ [] tU n159 [jg k,qS k] k y=cc k y.1 y.2:=by kernel_rfl
noncomputable def sH (k:Nat):Au Tryz.prog:=CK 159 Tryz.func159 (ql k)
noncomputable def UW (k:Nat)(x1:ByteArray)(x2:ByteArray):Option Bool :=
(cc k x1 x2).bind fun y2 =>
cond (decide (y2 < 0)) (
some true) (
cond (y2 == 0) (
some (Op.bytesLess x1.toList x2.toList)) (
some false))
def rL:AQ:=⟨[.s,.s],[]⟩
def nW:List Al:=[.ts,.ts]
def sW:List AP:=[⟨.b,[],[.tb]⟩]
def n114:An:=.nd
theorem qx (k:Nat)(y:Tup nW):EX Tryz.f114 rL nW [] sW n114 [sH k] k y=UW k y.1 y.2:=by kernel_rfl
noncomputable def il (k:Nat):Au Tryz.prog:=CK 114 Tryz.func114 (qx k)
noncomputable def Lw (k:Nat)(x1:(List ByteArray))(z115:(Int × (List ByteArray)))(z116:Int):Option (Int ⊕ Int) :=
((cond (decide (z116 < (z115.2.length:Int))) (
(ix z115.2 z116).bind fun a117 =>
(z115.2[z116.toNat]?).bind fun a118 =>
(ix x1 z115.1).bind fun a119 =>
(UW k a118 a119).bind fun y120 =>
some y120) (
some false):Option Bool)).bind fun y121 =>
cond y121 (
some (.inl (IntKind.wrap .i64 (z116+1)))) (
some (.inr z116))
noncomputable def QS (k:Nat)(x1:(List ByteArray))(z115:(Int × (List ByteArray))):Option ((Int × (List ByteArray)) ⊕ (List ByteArray)) :=
cond (decide (z115.1 < (x1.length:Int))) (
(((AB (Lw k x1 z115) k 0).bind fun y122 =>
((cond (decide (y122 < (z115.2.length:Int))) (
(ix z115.2 y122).bind fun a123 =>
(z115.2[y122.toNat]?).bind fun a124 =>
(ix x1 z115.1).bind fun a125 =>
some (a124.toList == a125.toList)) (
some false):Option Bool)).bind fun y126 =>
cond y126 (
some z115.2) (
Ao (Bn (z115.2.length:Int) 0 y122) <|
Ao (decide ((([]:List ByteArray).length+((z115.2.drop 0).take (y122.toNat - 0)).length) * 16<=140737488355328)) <|
(ix x1 z115.1).bind fun a127 =>
Ao (decide (((([]:List ByteArray) ++ ((z115.2.drop 0).take (y122.toNat - 0))).length+[a127].length) * 16<=140737488355328)) <|
Ao (Bn (z115.2.length:Int) y122 (z115.2.length:Int)) <|
Ao (decide ((((([]:List ByteArray) ++ ((z115.2.drop 0).take (y122.toNat - 0))) ++ [a127]).length+((z115.2.drop y122.toNat).take (((z115.2.length:Int).toNat) - y122.toNat)).length) * 16<=140737488355328)) <|
some (((([]:List ByteArray) ++ ((z115.2.drop 0).take (y122.toNat - 0))) ++ [a127]) ++ ((z115.2.drop y122.toNat).take (((z115.2.length:Int).toNat) - y122.toNat)))):Option (List ByteArray))).bind fun y128 =>
some (.inl ((IntKind.wrap .i64 (z115.1+1)),y128))) (
some (.inr z115.2))
noncomputable def fk (k:Nat)(x1:(List ByteArray)):Option (List ByteArray) :=
(AB (QS k x1) k (0,([]:List ByteArray))).bind fun y129 =>
some y129
def rK:AQ:=⟨[.fz .u (.str .nil)],[]⟩
def nu:List Al:=[.tl (.str .nil)]
def uW:List AP:=[⟨.sl .u 500000,[(500000,.ar 9 (.str .nil))],[.tl (.str .nil)]⟩]
def n156:An:=.sq (.nd) (.sq (.nd) (.sq (.sq (.nd) (.lp [0] [] ⟨[(3,.sl .n 300400),(4,.i .i64)],[(300400,.ar 9 (.str .nil))]⟩ [.ti,.tl (.str .nil)] [(2,⟨[(3,.sl .n 300425)],[(300425,.ar 9 (.str .nil))]⟩)] [[.tl (.str .nil)]] (.sq (.nd) (.jn [4] [] [(0,⟨[(3,.sl .n 300750)],[(300750,.ar 9 (.str .nil))]⟩)] [[.tl (.str .nil)]] (.sq (.nd) (.sq (.lp [3] [300400] ⟨[(5,.i .i64)],[]⟩ [.ti] [(4,⟨[(5,.i .i64)],[]⟩)] [[.ti]] (.sq (.jn [5] [] [(0,⟨[(26,.b)],[]⟩)] [[.tb]] (.mk [] [0,0,2,7,15,31,31,127,255,31,31,1567,3615,8191,16383]) (.nd)) (.nd))) (.sq (.jn [3,5] [300400] [(0,⟨[(43,.b)],[]⟩)] [[.tb]] (.mk [] [0,0,2,7,15,31,31,127,255,31,31,1567,3615,8191,16383]) (.nd)) (.mk [] [0,0,3,7,0,0,48,112,240,511,0,0,3072,8191,16383])))) (.nd))))) (.nd)))
theorem uM (k:Nat)(y:Tup nu):EX Tryz.f156 rK nu [] uW n156 [il k] k y=fk k y:=by kernel_rfl
noncomputable def tX (k:Nat):Au Tryz.prog:=CK 156 Tryz.func156 (uM k)
noncomputable def VY (k:Nat)(x1:(List Ab))(z8:(Int × (List ByteArray))):Option ((Int × (List ByteArray)) ⊕ (List ByteArray)) :=
cond (decide (z8.1 < (x1.length:Int))) (
(ix x1 z8.1).bind fun a9 =>
Ao (decide ((z8.2.length+[a9.1].length) * 16<=140737488355328)) <|
some (.inl ((IntKind.wrap .i64 (z8.1+1)),(z8.2 ++ [a9.1])))) (
some (.inr z8.2))
noncomputable def fM (k:Nat)(x1:(List Ab)):Option (List ByteArray) :=
(AB (VY k x1) k (0,([]:List ByteArray))).bind fun y10 =>
(fk k y10).bind fun y11 =>
some y11
def qj:AQ:=⟨[.fz .u CI],[]⟩
def mA:List Al:=[.tl CI]
def uG:List AP:=[⟨.sl .u 500000,[(500000,.ar 9 (.str .nil))],[.tl (.str .nil)]⟩]
def n111:An:=.sq (.nd) (.sq (.nd) (.sq (.sq (.nd) (.lp [0] [] ⟨[(3,.sl .n 300400),(4,.i .i64)],[(300400,.ar 9 (.str .nil))]⟩ [.ti,.tl (.str .nil)] [(2,⟨[(3,.sl .n 300425)],[(300425,.ar 9 (.str .nil))]⟩)] [[.tl (.str .nil)]] (.nd))) (.sq (.fr [(1,300425)]) (.nd))))
theorem uE (k:Nat)(y:Tup mA):EX Tryz.f111 qj mA [] uG n111 [tX k] k y=fM k y:=by kernel_rfl
noncomputable def uL (k:Nat):Au Tryz.prog:=CK 111 Tryz.func111 (uE k)
noncomputable def OZ (k:Nat)(x1:(List Ab))(x2:ByteArray)(z13:(Int × ByteArray × ByteArray)):Option ((Int × ByteArray × ByteArray) ⊕ (Ab ⊕ (ByteArray × ByteArray))) :=
cond (decide (0<=z13.1)) (
(ix x1 z13.1).bind fun a14 =>
cond (a14.1.toList == x2.toList) (
(ix x1 z13.1).bind fun a15 =>
some (.inr (.inl (a15.1,a15.2.1,a15.2.2)))) (
some (.inl ((IntKind.wrap .i64 (z13.1 - 1)),z13.2.1,z13.2.2)))) (
some (.inr (.inr (z13.2.1,z13.2.2))))
noncomputable def fV (k:Nat)(x1:(List Ab))(x2:ByteArray):Option (ByteArray × Bool × ByteArray × Bool) :=
(AB (OZ k x1 x2) k ((IntKind.wrap .i64 ((x1.length:Int) - 1)),ByteArray.empty,ByteArray.empty)).bind fun y16 =>
BM (fun y17 =>
some (y17.1,y17.2.1,y17.2.2,true)) (fun y18 =>
some (ByteArray.empty,false,ByteArray.empty,false)) y16
def tN:AQ:=⟨[.fz .u CI,.s],[]⟩
def nc:List Al:=[.tl CI,.ts]
def rQ:List AP:=[⟨.tp [.ag [.s,.b,.s],.b],[],[.ts,.tb,.ts,.tb]⟩]
def n112:An:=.sq (.nd) (.sq (.sq (.nd) (.lp [0,1,4] [] ⟨[(6,.i .i64)],[(4,.bx 148 [.s,.lb false,.s])]⟩ [.ti,.ts,.ts] [(1,⟨[(5,.lb true)],[(4,.bx 148 [.s,.b,.s])]⟩),(2,⟨[],[(4,.bx 148 [.s,.lb false,.s])]⟩)] [[.ts,.tb,.ts],[.ts,.ts]] (.nd))) (.nd))
theorem qz (k:Nat)(y:Tup nc):EX Tryz.f112 tN nc [] rQ n112 [] k y=fV k y.1 y.2:=by kernel_rfl
noncomputable def uP (k:Nat):Au Tryz.prog:=CK 112 Tryz.func112 (qz k)
noncomputable def VV (k:Nat)(x1:(List Ab))(y2:(List ByteArray))(z31:(Int × (List Ab))):Option ((Int × (List Ab)) ⊕ (List Ab)) :=
cond (decide (z31.1 < (y2.length:Int))) (
(ix y2 z31.1).bind fun a32 =>
(y2[z31.1.toNat]?).bind fun a33 =>
(fV k x1 a33).bind fun y34 =>
((cond y34.2.1 (
some (y34.1,y34.2.1,(⟨#[]⟩:ByteArray))) (
some (y34.1,y34.2.1,y34.2.2.1)):Option Ab)).bind fun y35 =>
Ao (decide ((z31.2.length+[(y35.1,y35.2.1,y35.2.2)].length) * 40<=140737488355328)) <|
some (.inl ((IntKind.wrap .i64 (z31.1+1)),(z31.2 ++ [(y35.1,y35.2.1,y35.2.2)])))) (
some (.inr z31.2))
noncomputable def ph (k:Nat)(x1:(List Ab)):Option (List Ab) :=
(fM k x1).bind fun y2 =>
(AB (VV k x1 y2) k (0,([]:List Ab))).bind fun y36 =>
some y36
def A70:AQ:=⟨[.fz .u CI],[]⟩
def wN:List Al:=[.tl CI]
def R70:List AP:=[⟨.sl .u 500000,[(500000,.ar 148 CI)],[.tl CI]⟩]
def n70:An:=.sq (.nd) (.sq (.nd) (.sq (.nd) (.sq (.sq (.nd) (.lp [0,3] [400900] ⟨[(4,.sl .n 300500),(5,.i .i64)],[(300500,.ar 148 CI)]⟩ [.ti,.tl CI] [(2,⟨[(4,.sl .n 300525)],[(300525,.ar 148 CI)]⟩)] [[.tl CI]] (.sq (.nd) (.sq (.sq (.nd) (.jn [4,5,6] [300500] [(0,⟨[],[(6,.bx 148 [.s,.b,.s])]⟩)] [[.ts,.tb,.ts]] (.nd) (.nd))) (.nd))))) (.nd))))
theorem e70 (k:Nat)(y:Tup wN):EX Tryz.f70 A70 wN [] R70 n70 [uL k,uP k] k y=ph k y:=by kernel_rfl
noncomputable def C70 (k:Nat):Au Tryz.prog:=CK 70 Tryz.func70 (e70 k)
noncomputable def bX (k:Nat)(x1:(List (Int × Bool × ByteArray)))(x2:Int)(z55:(Int × (List Ab))):Option ((Int × (List Ab)) ⊕ (List Ab)) :=
((cond (decide (z55.1 < (x1.length:Int))) (
some (decide (z55.1 < x2))) (
some false):Option Bool)).bind fun y56 =>
cond y56 (
(ix x1 z55.1).bind fun a57 =>
(pw k a57.1).bind fun y58 =>
(ix x1 z55.1).bind fun a59 =>
((cond (!a59.2.1) (
(ix x1 z55.1).bind fun a60 =>
(ix x1 z55.1).bind fun a61 =>
(pW k a60.2.2 (IntKind.wrap .i64 (a61.1.tdiv 12))).bind fun y62 =>
some (y58,a59.2.1,y62)) (
some (y58,a59.2.1,ByteArray.empty)):Option Ab)).bind fun y63 =>
Ao (decide ((z55.2.length+[(y63.1,y63.2.1,y63.2.2)].length) * 40<=140737488355328)) <|
some (.inl ((IntKind.wrap .i64 (z55.1+1)),(z55.2 ++ [(y63.1,y63.2.1,y63.2.2)])))) (
some (.inr z55.2))
noncomputable def nQ (k:Nat)(x1:(List (Int × Bool × ByteArray)))(x2:Int):Option (List Ab) :=
(AB (bX k x1 x2) k (0,([]:List Ab))).bind fun y64 =>
((cond ((y64.length:Int) == 0) (
some [((⟨#[97]⟩:ByteArray),false,(⟨#[49]⟩:ByteArray))]) (
some y64):Option (List Ab))).bind fun y65 =>
(ph k y65).bind fun y66 =>
some y66
def A45:AQ:=⟨[.fz .u (.int .i64 (.bool (.str .nil))),.i .i64],[]⟩
def wA:List Al:=[.tl (.int .i64 (.bool (.str .nil))),.ti]
def R45:List AP:=[⟨.sl .u 500000,[(500000,.ar 148 CI)],[.tl CI]⟩]
def n45:An:=.sq (.nd) (.sq (.nd) (.sq (.sq (.nd) (.lp [0,1] [] ⟨[(5,.sl .n 300400),(6,.i .i64)],[(300400,.ar 148 CI)]⟩ [.ti,.tl CI] [(2,⟨[(5,.sl .n 300425)],[(300425,.ar 148 CI)]⟩)] [[.tl CI]] (.sq (.jn [5,6] [300400] [(0,⟨[(16,.b)],[]⟩)] [[.tb]] (.nd) (.nd)) (.sq (.sq (.mk [] [0,0,3,7,15,31,0,0,192,448,960,2047,0,8191]) (.jn [5,6,7] [300400] [(0,⟨[],[(7,.bx 148 [.s,.b,.s])]⟩)] [[.ts,.tb,.ts]] (.sq (.nd) (.sq (.mk [] [0,0,3,7,15,0,0,96,224,480,992,2047,4095,8191]) (.nd))) (.nd))) (.nd))))) (.jn [] [] [(0,⟨[(5,.sl .u 301350)],[(301350,.ar 148 CI)]⟩)] [[.tl CI]] (.nd) (.sq (.fr [(1,301350)]) (.nd)))))
theorem e45 (k:Nat)(y:Tup wA):EX Tryz.f45 A45 wA [] R45 n45 [C68 k,C69 k,C70 k] k y=nQ k y.1 y.2:=by kernel_rfl
noncomputable def C45 (k:Nat):Au Tryz.prog:=CK 45 Tryz.func45 (e45 k)
noncomputable def pR (k:Nat)(x1:Int)(x2:Int)(x3:Int):Option Bool :=
cond (decide (32<=x1)) (
cond (decide (x1<=128)) (
cond (decide (3<=x2)) (
cond (decide (x2<=10)) (
cond (decide (4<=x3)) (
some (decide (x3<=12))) (
some false)) (
some false)) (
some false)) (
some false)) (
some false)
def A63:AQ:=⟨[.ag [.i .i64,.i .i64,.i .i64]],[]⟩
def ax:List Al:=[.ti,.ti,.ti]
def R63:List AP:=[⟨.b,[],[.tb]⟩]
def n63:An:=.nd
theorem e63 (k:Nat)(y:Tup ax):EX Tryz.f63 A63 ax [] R63 n63 [] k y=pR k y.1 y.2.1 y.2.2:=by kernel_rfl
noncomputable def C63 (k:Nat):Au Tryz.prog:=CK 63 Tryz.func63 (e63 k)
noncomputable def fv (k:Nat)(x1:Int)(x2:Int):Option Bool :=
cond (decide (33<=x1)) (
cond (decide (127<=x1)) (
cond (!(decide (x1<=160))) (
cond (x1 == 65533) (
some (!(x2 == 1))) (
some true)) (
some false)) (
cond (x1 == 65533) (
some (!(x2 == 1))) (
some true))) (
some false)
def tP:AQ:=⟨[.i .i64,.i .i64],[]⟩
def mf:List Al:=[.ti,.ti]
def qO:List AP:=[⟨.b,[],[.tb]⟩]
def n158:An:=.nd
theorem rT (k:Nat)(y:Tup mf):EX Tryz.f158 tP mf [] qO n158 [] k y=fv k y.1 y.2:=by kernel_rfl
noncomputable def rG (k:Nat):Au Tryz.prog:=CK 158 Tryz.func158 (rT k)
noncomputable def NW (k:Nat)(y2:((List Int) × (List Int)))(z42:Int):Option (Int ⊕ (Unit ⊕ Unit)) :=
cond (decide (z42 < (y2.1.length:Int))) (
(ix y2.1 z42).bind fun a43 =>
(y2.1[z42.toNat]?).bind fun a44 =>
(ix y2.2 z42).bind fun a45 =>
(y2.2[z42.toNat]?).bind fun a46 =>
(fv k a44 a46).bind fun y47 =>
cond (!y47) (
some (.inr (.inl ()))) (
some (.inl (IntKind.wrap .i64 (z42+1))))) (
some (.inr (.inr ())))
noncomputable def YK (k:Nat)(x1:ByteArray):Option Bool :=
(UP k x1).bind fun y2 =>
(AB (NW k y2) k 0).bind fun y48 =>
BM (fun y49 =>
some false) (fun y50 =>
cond (decide (1<=(y2.1.length:Int))) (
some (decide ((y2.1.length:Int)<=12))) (
some false)) y48
def uZ:AQ:=⟨[.s],[]⟩
def mP:List Al:=[.ts]
def py:List AP:=[⟨.b,[],[.tb]⟩]
def n113:An:=.sq (.nd) (.sq (.nd) (.sq (.sq (.nd) (.lp [3,4] [400800,400801] ⟨[(5,.i .i64)],[]⟩ [.ti] [(1,⟨[(2,.lb false)],[]⟩),(2,⟨[],[]⟩)] [[],[]] (.sq (.nd) (.sq (.sq (.mk [] [0,0,3,7,0,0,48,112,255,511]) (.nd)) (.nd))))) (.nd)))
theorem rW (k:Nat)(y:Tup mP):EX Tryz.f113 uZ mP [] py n113 [jg k,rG k] k y=YK k y:=by kernel_rfl
noncomputable def ow (k:Nat):Au Tryz.prog:=CK 113 Tryz.func113 (rW k)
noncomputable def Nn (k:Nat)(x1:(List Ab))(z121:Int):Option (Int ⊕ (Int ⊕ Unit)) :=
cond (decide (z121 < (x1.length:Int))) (
(ix x1 z121).bind fun a122 =>
(x1[z121.toNat]?).bind fun a123 =>
(YK k a123.1).bind fun y124 =>
cond (!y124) (
some (.inr (.inl 10))) (
(ix x1 z121).bind fun a125 =>
(x1[z121.toNat]?).bind fun a126 =>
cond (decide (48 < (a126.2.2.size:Int))) (
some (.inr (.inl 11))) (
(((ix x1 z121).bind fun a127 =>
(x1[z121.toNat]?).bind fun a128 =>
cond a128.2.1 (
(ix x1 z121).bind fun a129 =>
(x1[z121.toNat]?).bind fun a130 =>
cond (!(a130.2.2.toList == (⟨#[]⟩:ByteArray).toList)) (
some true) (
cond (decide (0 < z121)) (
(ix x1 (IntKind.wrap .i64 (z121 - 1))).bind fun a131 =>
(x1[(IntKind.wrap .i64 (z121 - 1)).toNat]?).bind fun a132 =>
(ix x1 z121).bind fun a133 =>
(x1[z121.toNat]?).bind fun a134 =>
(UW k a132.1 a134.1).bind fun y135 =>
some (!y135)) (
some false))) (
cond (decide (0 < z121)) (
(ix x1 (IntKind.wrap .i64 (z121 - 1))).bind fun a136 =>
(x1[(IntKind.wrap .i64 (z121 - 1)).toNat]?).bind fun a137 =>
(ix x1 z121).bind fun a138 =>
(x1[z121.toNat]?).bind fun a139 =>
(UW k a137.1 a139.1).bind fun y140 =>
some (!y140)) (
some false)):Option Bool)).bind fun y141 =>
cond y141 (
some (.inr (.inl 2))) (
some (.inl (IntKind.wrap .i64 (z121+1))))))) (
some (.inr (.inr ())))
noncomputable def pU (k:Nat)(x1:(List Ab)):Option Int :=
((cond (decide ((x1.length:Int) < 1)) (
some true) (
some (decide (8 < (x1.length:Int)))):Option Bool)).bind fun y2 =>
cond y2 (
some 12) (
(AB (Nn k x1) k 0).bind fun y142 =>
BM (fun y143 =>
some y143) (fun y144 =>
some 0) y142)
def A74:AQ:=⟨[.sl .u 1000000],[(1000000,.ar 148 CI)]⟩
def uo:List Al:=[.tl CI]
def R74:List AP:=[⟨.i .i64,[],[.ti]⟩]
def n74:An:=.sq (.nd) (.sq (.jn [0] [] [(0,⟨[(11,.b)],[]⟩)] [[.tb]] (.nd) (.nd)) (.sq (.sq (.nd) (.lp [0] [] ⟨[(3,.i .i64)],[]⟩ [.ti] [(1,⟨[(2,.i .i64)],[]⟩),(2,⟨[],[]⟩)] [[.ti],[]] (.sq (.nd) (.sq (.sq (.nd) (.sq (.nd) (.jn [3] [] [(0,⟨[(63,.b)],[]⟩)] [[.tb]] (.mk [] [0,0,3,7,15,31,63,63,255,511,1023,2047,4095,8191,16383,32767,65535,131071,131071,393215,1048575,2097151,4194303,131071,131071,25296895,58851327,125960191,268435455,536870911,1073741823,2147483647]) (.nd)))) (.nd))))) (.nd)))
theorem e74 (k:Nat)(y:Tup uo):EX Tryz.f74 A74 uo [1000000] R74 n74 [ow k,il k] k y=pU k y:=by kernel_rfl
noncomputable def C74 (k:Nat):Au Tryz.prog:=CK 74 Tryz.func74 (e74 k)
noncomputable def Rv (k:Nat)(z3:(Int × (List Int))):Option ((Int × (List Int)) ⊕ (Int × (List Int))) :=
cond (decide (128<=z3.1)) (
Ao (decide ((z3.2.length+[(IntKind.wrap .u8 ((IntKind.wrap .u8 (z3.1.tmod 128))+128))].length) * 1<=140737488355328)) <|
some (.inl ((IntKind.wrap .u32 (z3.1.tdiv 128)),(z3.2 ++ [(IntKind.wrap .u8 ((IntKind.wrap .u8 (z3.1.tmod 128))+128))])))) (
some (.inr (z3.1,z3.2)))
noncomputable def Zu (k:Nat)(x1:Int):Option ByteArray :=
(AB (Rv k) k (x1,([]:List Int))).bind fun y4 =>
Ao (decide ((y4.2.length+[(IntKind.wrap .u8 y4.1)].length) * 1<=140737488355328)) <|
some (strOfNums (y4.2 ++ [(IntKind.wrap .u8 y4.1)]))
def rC:AQ:=⟨[.i .u32],[]⟩
def oW:List Al:=[.ti]
def uX:List AP:=[⟨.s,[],[.ts]⟩]
def n109:An:=.sq (.nd) (.sq (.nd) (.sq (.lp [] [] ⟨[(0,.i .u32),(3,.sl .n 300300)],[(300300,.ar 5 GD)]⟩ [.ti,.tl GD] [(2,⟨[(0,.i .u32),(3,.sl .n 300325)],[(300325,.ar 5 GD)]⟩)] [[.ti,.tl GD]] (.nd)) (.nd)))
theorem qm (k:Nat)(y:Tup oW):EX Tryz.f109 rC oW [] uX n109 [] k y=Zu k y:=by kernel_rfl
noncomputable def oY (k:Nat):Au Tryz.prog:=CK 109 Tryz.func109 (qm k)
noncomputable def Yr (k:Nat)(x1:ByteArray):Option ByteArray :=
(Zu k (IntKind.wrap .u32 (x1.size:Int))).bind fun y1 =>
Ao (decide (y1.size+x1.size<=9223372036854775807)) <|
some (y1 ++ x1)
def tR:AQ:=⟨[.s],[]⟩
def pC:List Al:=[.ts]
def tu:List AP:=[⟨.s,[],[.ts]⟩]
def n110:An:=.nd
theorem uQ (k:Nat)(y:Tup pC):EX Tryz.f110 tR pC [] tu n110 [oY k] k y=Yr k y:=by kernel_rfl
noncomputable def qG (k:Nat):Au Tryz.prog:=CK 110 Tryz.func110 (uQ k)
noncomputable def Rf (k:Nat)(x1:(List Ab))(z66:(ByteArray × Int)):Option ((ByteArray × Int) ⊕ ByteArray) :=
cond (decide (z66.2 < (x1.length:Int))) (
(((ix x1 z66.2).bind fun a67 =>
(x1[z66.2.toNat]?).bind fun a68 =>
cond a68.2.1 (
(ix x1 z66.2).bind fun a69 =>
(x1[z66.2.toNat]?).bind fun a70 =>
(Yr k a70.1).bind fun y71 =>
Ao (decide ((⟨#[1]⟩:ByteArray).size+y71.size<=9223372036854775807)) <|
Ao (decide (z66.1.size+((⟨#[1]⟩:ByteArray) ++ y71).size<=9223372036854775807)) <|
some (z66.1 ++ ((⟨#[1]⟩:ByteArray) ++ y71))) (
(ix x1 z66.2).bind fun a72 =>
(x1[z66.2.toNat]?).bind fun a73 =>
(Yr k a73.1).bind fun y74 =>
Ao (decide ((⟨#[0]⟩:ByteArray).size+y74.size<=9223372036854775807)) <|
(ix x1 z66.2).bind fun a75 =>
(x1[z66.2.toNat]?).bind fun a76 =>
(Yr k a76.2.2).bind fun y77 =>
Ao (decide (((⟨#[0]⟩:ByteArray) ++ y74).size+y77.size<=9223372036854775807)) <|
Ao (decide (z66.1.size+(((⟨#[0]⟩:ByteArray) ++ y74) ++ y77).size<=9223372036854775807)) <|
some (z66.1 ++ (((⟨#[0]⟩:ByteArray) ++ y74) ++ y77))):Option ByteArray)).bind fun y78 =>
some (.inl (y78,(IntKind.wrap .i64 (z66.2+1))))) (
some (.inr z66.1))
noncomputable def pQ (k:Nat)(x1:(List Ab)):Option (ByteArray × Int) :=
(pU k x1).bind fun y3 =>
cond (y3 != 0) (
some ((⟨#[]⟩:ByteArray),y3)) (
(Zu k (IntKind.wrap .u32 (x1.length:Int))).bind fun y5 =>
(AB (Rf k x1) k (y5,0)).bind fun y79 =>
some (y79,0))
def A64:AQ:=⟨[.sl .u 1000000],[(1000000,.ar 148 CI)]⟩
def vn:List Al:=[.tl CI]
def R64:List AP:=[⟨.tp [.s,.i .i64],[],[.ts,.ti]⟩]
def n64:An:=.sq (.nd) (.sq (.nd) (.sq (.nd) (.sq (.sq (.nd) (.lp [0] [] ⟨[(5,.s),(6,.i .i64)],[]⟩ [.ts,.ti] [(2,⟨[(5,.s)],[]⟩)] [[.ts]] (.sq (.nd) (.jn [6] [] [(0,⟨[(5,.s)],[]⟩)] [[.ts]] (.sq (.nd) (.sq (.nd) (.mk [] [0,0,0,6,14,30,62,126,0,0,768,1792,3840,8062,16382,32767,65535]))) (.nd))))) (.nd))))
theorem e64 (k:Nat)(y:Tup vn):EX Tryz.f64 A64 vn [1000000] R64 n64 [C74 k,oY k,qG k] k y=pQ k y:=by kernel_rfl
noncomputable def C64 (k:Nat):Au Tryz.prog:=CK 64 Tryz.func64 (e64 k)
noncomputable def kY (k:Nat)(x1:Int)(x2:Int)(x3:Int):Option Int :=
some (IntKind.wrap .i64 (x1 - 15))
def A67:AQ:=⟨[.ag [.i .i64,.i .i64,.i .i64]],[]⟩
def vo:List Al:=[.ti,.ti,.ti]
def R67:List AP:=[⟨.i .i64,[],[.ti]⟩]
def n67:An:=.nd
theorem e67 (k:Nat)(y:Tup vo):EX Tryz.f67 A67 vo [] R67 n67 [] k y=kY k y.1 y.2.1 y.2.2:=by kernel_rfl
noncomputable def wO (k:Nat):Au Tryz.prog:=CK 67 Tryz.func67 (e67 k)
noncomputable def pb (k:Nat)(x1:Int)(x2:Int)(x3:Int)(x4:Int):Option Int :=
(kY k x1 x2 x3).bind fun y1 =>
(kY k x1 x2 x3).bind fun y2 =>
Ao (y2 != 0) <|
some (IntKind.wrap .i64 ((IntKind.wrap .i64 ((IntKind.wrap .i64 ((IntKind.wrap .i64 ((mn (mx x4 1) 1048576)+y1)) - 1)).tdiv y2))+1))
def A65:AQ:=⟨[.ag [.i .i64,.i .i64,.i .i64],.i .i64],[]⟩
def pj:List Al:=[.ti,.ti,.ti,.ti]
def R65:List AP:=[⟨.i .i64,[],[.ti]⟩]
def n65:An:=.sq (.nd) (.sq (.nd) (.sq (.mk [] [0,0,2,7,15,0,38,127,255,511]) (.nd)))
theorem e65 (k:Nat)(y:Tup pj):EX Tryz.f65 A65 pj [] R65 n65 [wO k] k y=pb k y.1 y.2.1 y.2.2.1 y.2.2.2:=by kernel_rfl
noncomputable def C65 (k:Nat):Au Tryz.prog:=CK 65 Tryz.func65 (e65 k)
noncomputable def kU (k:Nat)(x1:Int)(x2:Int)(x3:Int):Option Int :=
some (IntKind.wrap .i64 (x2 - 1))
def A20:AQ:=⟨[.ag [.i .i64,.i .i64,.i .i64]],[]⟩
def wD:List Al:=[.ti,.ti,.ti]
def R20:List AP:=[⟨.i .i64,[],[.ti]⟩]
def n20:An:=.nd
theorem e20 (k:Nat)(y:Tup wD):EX Tryz.f20 A20 wD [] R20 n20 [] k y=kU k y.1 y.2.1 y.2.2:=by kernel_rfl
noncomputable def uT (k:Nat):Au Tryz.prog:=CK 20 Tryz.func20 (e20 k)
noncomputable def pg (k:Nat)(x1:Int)(x2:Int)(x3:Int):Option Int :=
(kU k x1 x2 x3).bind fun y1 =>
some (IntKind.wrap .i64 ((IntKind.wrap .i64 (x3 - 3)) * y1))
def A66:AQ:=⟨[.ag [.i .i64,.i .i64,.i .i64]],[]⟩
def vE:List Al:=[.ti,.ti,.ti]
def R66:List AP:=[⟨.i .i64,[],[.ti]⟩]
def n66:An:=.sq (.nd) (.sq (.mk [] [0,1,3,0,8,31,63]) (.nd))
theorem e66 (k:Nat)(y:Tup vE):EX Tryz.f66 A66 vE [] R66 n66 [uT k] k y=pg k y.1 y.2.1 y.2.2:=by kernel_rfl
noncomputable def C66 (k:Nat):Au Tryz.prog:=CK 66 Tryz.func66 (e66 k)
noncomputable def bu (k:Nat)(z6:(Int × Int)):Option ((Int × Int) ⊕ Int) :=
cond (decide (z6.2 < 8)) (
((cond ((z6.1.tmod 2) == 1) (
some (bits .xor .u32 (IntKind.wrap .u32 (z6.1.tdiv 2)) 3988292384)) (
some (IntKind.wrap .u32 (z6.1.tdiv 2))):Option Int)).bind fun y7 =>
some (.inl (y7,(IntKind.wrap .i64 (z6.2+1))))) (
some (.inr z6.1))
noncomputable def pS (k:Nat)(x1:Int)(x2:Int):Option Int :=
(AB (bu k) k ((bits .xor .u32 x1 (IntKind.wrap .u32 x2)),0)).bind fun y8 =>
some y8
def A71:AQ:=⟨[.i .u32,.i .u8],[]⟩
def ur:List Al:=[.ti,.ti]
def R71:List AP:=[⟨.i .u32,[],[.ti]⟩]
def n71:An:=.sq (.nd) (.sq (.nd) (.sq (.sq (.nd) (.lp [] [] ⟨[(0,.i .u32),(5,.i .i64)],[]⟩ [.ti,.ti] [(2,⟨[(0,.i .u32)],[]⟩)] [[.ti]] (.sq (.nd) (.jn [5] [] [(0,⟨[(0,.i .u32)],[]⟩)] [[.ti]] (.nd) (.nd))))) (.nd)))
theorem e71 (k:Nat)(y:Tup ur):EX Tryz.f71 A71 ur [] R71 n71 [] k y=pS k y.1 y.2:=by kernel_rfl
noncomputable def C71 (k:Nat):Au Tryz.prog:=CK 71 Tryz.func71 (e71 k)
noncomputable def XJ (k:Nat)(x1:ByteArray)(z8:(Int × Int)):Option ((Int × Int) ⊕ Int) :=
cond (decide (z8.2 < (x1.size:Int))) (
Ao (decide (0<=z8.2/\z8.2 < (x1.size:Int))) <|
(pS k z8.1 (bt x1 z8.2)).bind fun y9 =>
some (.inl (y9,(IntKind.wrap .i64 (z8.2+1))))) (
some (.inr z8.1))
noncomputable def mF (k:Nat)(x1:ByteArray):Option Int :=
(AB (XJ k x1) k (4294967295,0)).bind fun y10 =>
some (IntKind.wrap .u32 (4294967295 - y10))
def A47:AQ:=⟨[.s],[]⟩
def vf:List Al:=[.ts]
def R47:List AP:=[⟨.i .u32,[],[.ti]⟩]
def n47:An:=.sq (.nd) (.sq (.nd) (.sq (.sq (.nd) (.lp [0] [] ⟨[(3,.i .u32),(4,.i .i64)],[]⟩ [.ti,.ti] [(2,⟨[(3,.i .u32)],[]⟩)] [[.ti]] (.nd))) (.nd)))
theorem e47 (k:Nat)(y:Tup vf):EX Tryz.f47 A47 vf [] R47 n47 [C71 k] k y=mF k y:=by kernel_rfl
noncomputable def wP (k:Nat):Au Tryz.prog:=CK 47 Tryz.func47 (e47 k)
noncomputable def Qm (k:Nat)(x1:Int)(x2:Int)(x3:Int)(x4:Int)(y5:(ByteArray × Int))(z24:(Int × (List BZ))):Option ((Int × (List BZ)) ⊕ (List BZ)) :=
cond (decide (z24.1 < (y5.1.size:Int))) (
(kY k x1 x2 x3).bind fun y25 =>
Ao (Bn (y5.1.size:Int) z24.1 (mn (IntKind.wrap .i64 (z24.1+y25)) (y5.1.size:Int))) <|
Ao (decide ((z24.2.length+[(2,x4,(IntKind.wrap .u32 (z24.2.length:Int)),(y5.1.extract z24.1.toNat ((mn (IntKind.wrap .i64 (z24.1+y25)) (y5.1.size:Int)).toNat)))].length) * 32<=140737488355328)) <|
(kY k x1 x2 x3).bind fun y26 =>
some (.inl ((IntKind.wrap .i64 (z24.1+y26)),(z24.2 ++ [(2,x4,(IntKind.wrap .u32 (z24.2.length:Int)),(y5.1.extract z24.1.toNat ((mn (IntKind.wrap .i64 (z24.1+y25)) (y5.1.size:Int)).toNat)))])))) (
some (.inr z24.2))
noncomputable def pE (k:Nat)(x1:Int)(x2:Int)(x3:Int)(x4:Int)(x5:Int)(x6:Int)(x7:(List Ab)):Option (Int ⊕ (Int × (List BZ))) :=
(pR k x1 x2 x3).bind fun y3 =>
cond (!y3) (
some (.inl 1)) (
(pQ k x7).bind fun y5 =>
cond (y5.2 != 0) (
some (.inl y5.2)) (
((cond (decide (x4<=x5)) (
some true) (
cond (decide (x6 < 1)) (
some true) (
cond (decide (x4 < x6)) (
some true) (
some (decide (2147483647 < x4))))):Option Bool)).bind fun y7 =>
cond y7 (
some (.inl 2)) (
(pb k x1 x2 x3 (y5.1.size:Int)).bind fun y12 =>
(pg k x1 x2 x3).bind fun y13 =>
cond (decide (y13 < y12)) (
some (.inl 14)) (
(AB (Qm k x1 x2 x3 x4 y5) k (0,([]:List BZ))).bind fun y27 =>
(gB k x5).bind fun y33 =>
(gB k x6).bind fun y34 =>
Ao (decide (y33.size+y34.size<=9223372036854775807)) <|
(mF k y5.1).bind fun y35 =>
(gB k y35).bind fun y36 =>
Ao (decide ((y33 ++ y34).size+y36.size<=9223372036854775807)) <|
(gB k (IntKind.wrap .u32 (y5.1.size:Int))).bind fun y37 =>
Ao (decide (((y33 ++ y34) ++ y36).size+y37.size<=9223372036854775807)) <|
Ao (decide ((y27.length+[(3,x4,(IntKind.wrap .u32 (y27.length:Int)),(((y33 ++ y34) ++ y36) ++ y37))].length) * 32<=140737488355328)) <|
some (.inr (0,(y27 ++ [(3,x4,(IntKind.wrap .u32 (y27.length:Int)),(((y33 ++ y34) ++ y36) ++ y37))])))))))
def A44:AQ:=⟨[.ag [.i .i64,.i .i64,.i .i64],.ag [.i .u32,.i .u32,.i .u32,.sl .u 1000000]],[(1000000,.ar 148 CI)]⟩
def wH:List Al:=[.ti,.ti,.ti,.ti,.ti,.ti,.tl CI]
def R44:List AP:=[⟨.tp [.c (.slice none 0 0),.i .i64],[],[.ti]⟩,⟨.tp [.sl .u 500000,.i .i64],[(500000,.ar 54 DS)],[.ti,.tl DS]⟩]
def n44:An:=.sq (.nd) (.sq (.nd) (.sq (.nd) (.sq (.nd) (.sq (.jn [2,3,6] [2,3] [(0,⟨[(44,.b)],[]⟩)] [[.tb]] (.nd) (.nd)) (.sq (.sq (.mk [] [0,0,2,7,0,31,63]) (.nd)) (.sq (.nd) (.sq (.sq (.nd) (.lp [2,3,6] [2,3] ⟨[(8,.sl .n 302100),(9,.i .i64)],[(302100,.ar 54 DS)]⟩ [.ti,.tl DS] [(2,⟨[(8,.sl .n 302125)],[(302125,.ar 54 DS)]⟩)] [[.tl DS]] (.sq (.nd) (.sq (.mk [] [0,0,2,0,8,24,0,0,0,0,512,1792,0,4096,16128,32704,65534,131070,262143,524287]) (.nd))))) (.sq (.mk [] [0,1,3,0,8,31,63,0,191,447,1023,0,2048,6144,15295,32767,65535]) (.nd)))))))))
theorem e44 (k:Nat)(y:Tup wH):EX Tryz.f44 A44 wH [1000000] R44 n44 [C63 k,C64 k,C65 k,C66 k,wO k,vy k,wP k] k y=pE k y.1 y.2.1 y.2.2.1 y.2.2.2.1 y.2.2.2.2.1 y.2.2.2.2.2.1 y.2.2.2.2.2.2:=by kernel_rfl
noncomputable def C44 (k:Nat):Au Tryz.prog:=CK 44 Tryz.func44 (e44 k)
noncomputable def Sg (k:Nat)(x1:Int)(x2:Int)(x3:Int)(x4:(List (Int × Int × Int × (List (Int × Bool × ByteArray)) × Int)))(z149:(Int × (List BZ))):Option ((Int × (List BZ)) ⊕ (List BZ)) :=
((cond (decide (z149.1 < (x4.length:Int))) (
some (decide (z149.1 < 20))) (
some false):Option Bool)).bind fun y150 =>
cond y150 (
(((ix x4 z149.1).bind fun a151 =>
(ix x4 z149.1).bind fun a152 =>
cond ((a152.2.2.2.1.length:Int) == 0) (
(ix x4 z149.1).bind fun a153 =>
(ix x4 z149.1).bind fun a154 =>
Ao ((IntKind.wrap .u32 ((IntKind.wrap .u32 (1+(a151.1.tmod 12)))+1)) != 0) <|
(gB k (a154.2.2.1.tmod (IntKind.wrap .u32 ((IntKind.wrap .u32 (1+(a151.1.tmod 12)))+1)))).bind fun y155 =>
Ao (decide ((z149.2.length+[(4,(IntKind.wrap .u32 (1+(a151.1.tmod 12))),(a153.2.1.tmod 3),y155)].length) * 32<=140737488355328)) <|
some (z149.2 ++ [(4,(IntKind.wrap .u32 (1+(a151.1.tmod 12))),(a153.2.1.tmod 3),y155)])) (
(((ix x4 z149.1).bind fun a156 =>
Ao ((IntKind.wrap .u32 (1+(a151.1.tmod 12))) != 0) <|
(ix x4 z149.1).bind fun a157 =>
Ao ((IntKind.wrap .u32 (1+(a151.1.tmod 12))) != 0) <|
(ix x4 z149.1).bind fun a158 =>
(nQ k a158.2.2.2.1 3).bind fun y159 =>
(pE k x1 x2 x3 (IntKind.wrap .u32 (1+(a151.1.tmod 12))) (a156.2.1.tmod (IntKind.wrap .u32 (1+(a151.1.tmod 12)))) (IntKind.wrap .u32 (1+(a157.2.2.1.tmod (IntKind.wrap .u32 (1+(a151.1.tmod 12)))))) y159).bind fun y160 =>
BM (fun y161 =>
some ([]:List BZ)) (fun y162 =>
some y162.2) y160:Option (List BZ))).bind fun y163 =>
(((((ix x4 z149.1).bind fun a164 =>
cond ((a164.2.2.2.2.tmod 5) == 4) (
some (decide (0 < (y163.length:Int)))) (
some false):Option Bool)).bind fun y165 =>
cond y165 (
Ao (Bn (y163.length:Int) 0 (IntKind.wrap .i64 ((y163.length:Int) - 1))) <|
some ((y163.drop 0).take (((IntKind.wrap .i64 ((y163.length:Int) - 1)).toNat) - 0))) (
some y163):Option (List BZ))).bind fun y166 =>
Ao (decide ((z149.2.length+y166.length) * 32<=140737488355328)) <|
some (z149.2 ++ y166)):Option (List BZ))).bind fun y167 =>
some (.inl ((IntKind.wrap .i64 (z149.1+1)),y167))) (
some (.inr z149.2))
noncomputable def NL (k:Nat)(x5:(List Int))(z199:((List BZ) × Int × Int × Int × Int × (List BA))):Option (((List BZ) × Int × Int × Int × Int × (List BA)) ⊕ (Int × Int × Int × (List BA))) :=
cond (decide (z199.2.1 < z199.2.2.2.2.1)) (
((cond (decide (z199.2.1 < (x5.length:Int))) (
(ix x5 z199.2.1).bind fun a200 =>
some (z199.2.1,(a200.tmod 9))) (
cond (decide (0 < (z199.1.length:Int))) (
some (z199.2.1,(IntKind.wrap .u32 (IntKind.wrap .i64 (z199.2.1+10))))) (
some (z199.2.1,0))):Option (Int × Int))).bind fun y201 =>
((cond (decide (0 < y201.2)) (
(kU k z199.2.2.1 z199.2.2.2.1 z199.2.2.2.2.1).bind fun y202 =>
Ao (Bn (z199.1.length:Int) 0 (mn (z199.1.length:Int) y202)) <|
Ao (decide ((([]:List BZ).length+(cut z199.1 0 (mn (z199.1.length:Int) y202)).length) * 32<=140737488355328)) <|
Ao (Bn (z199.1.length:Int) (mn (z199.1.length:Int) y202) (z199.1.length:Int)) <|
some ((cut z199.1 (mn (z199.1.length:Int) y202) (z199.1.length:Int)),y201.1,y201.2,(([]:List BZ) ++ (cut z199.1 0 (mn (z199.1.length:Int) y202))))) (
some (z199.1,y201.1,y201.2,([]:List BZ))):Option ((List BZ) × Int × Int × (List BZ)))).bind fun y203 =>
Ao (decide ((z199.2.2.2.2.2.length+[(y203.2.1,y203.2.2.1,y203.2.2.2,true)].length) * 48<=140737488355328)) <|
some (.inl (y203.1,(IntKind.wrap .i64 (z199.2.1+1)),z199.2.2.1,z199.2.2.2.1,z199.2.2.2.2.1,(z199.2.2.2.2.2 ++ [(y203.2.1,y203.2.2.1,y203.2.2.2,true)])))) (
some (.inr (z199.2.2.1,z199.2.2.2.1,z199.2.2.2.2.1,z199.2.2.2.2.2)))
noncomputable def oV (k:Nat)(x1:Int)(x2:Int)(x3:Int)(x4:(List (Int × Int × Int × (List (Int × Bool × ByteArray)) × Int)))(x5:(List Int)):Option (List BA) :=
(AB (Sg k x1 x2 x3 x4) k (0,([]:List BZ))).bind fun y168 =>
(AB (NL k x5) k (y168,0,x1,x2,x3,([]:List BA))).bind fun y204 =>
some y204.2.2.2
def A15:AQ:=⟨[.ag [.i .i64,.i .i64,.i .i64],.fz .u iR,.fz .u (.int .u32 .nil)],[]⟩
def ve:List Al:=[.ti,.ti,.ti,.tl iR,.tl (.int .u32 .nil)]
def R15:List AP:=[⟨.sl .u 500000,[(500000,.ar 52 Cr)],[.tl Cr]⟩]
def n15:An:=.sq (.nd) (.sq (.nd) (.sq (.sq (.nd) (.lp [1,2,3] [3] ⟨[(7,.sl .n 300400),(8,.i .i64)],[(300400,.ar 54 DS)]⟩ [.ti,.tl DS] [(2,⟨[(7,.sl .n 300425)],[(300425,.ar 54 DS)]⟩)] [[.tl DS]] (.sq (.jn [7,8] [300400] [(0,⟨[(23,.b)],[]⟩)] [[.tb]] (.nd) (.nd)) (.jn [8] [] [(0,⟨[(7,.sl .n 300750)],[(300750,.ar 54 DS)]⟩)] [[.tl DS]] (.sq (.nd) (.sq (.sq (.nd) (.sq (.sq (.mk [] [0,0,0,0,12,28,60,124,0,0,768,1792,3840,0,8192,32512,65280,131070,262142,524287,1048575]) (.nd)) (.nd))) (.jn [7] [300400] [(0,⟨[(10,.sl .u 301350)],[(301350,.ar 54 DS)]⟩)] [[.tl DS]] (.mk [] [0,0,0,0,12,28,60,0,252,0,0,1536,3584,7680,0,32256,65024,0,0,393216,917504,1966080,4063232,8388606,16777215,33554431,67108863,67108863,134217727,536870911]) (.jn [7] [300400] [(0,⟨[(10,.fz .u DS)],[]⟩)] [[.tl DS]] (.jn [10] [301350] [(0,⟨[(99,.b)],[]⟩)] [[.tb]] (.nd) (.nd)) (.nd))))) (.nd))))) (.sq (.nd) (.sq (.sq (.nd) (.lp [2,3] [] ⟨[(7,.fz .u DS),(12,.sl .n 302150),(13,.i .i64)],[(3,.bx 23 [.i .i64,.i .i64,.i .i64]),(302150,.ar 52 Cr)]⟩ [.tl DS,.ti,.ti,.ti,.ti,.tl Cr] [(4,⟨[(12,.sl .n 302175)],[(3,.bx 23 [.i .i64,.i .i64,.i .i64]),(302175,.ar 52 Cr)]⟩)] [[.ti,.ti,.ti,.tl Cr]] (.sq (.nd) (.sq (.sq (.nd) (.jn [7,12,13,14] [3,302150] [(0,⟨[],[(14,.bx 52 [.i .i64,.i .u32,.c (.slice none 0 0),.lb true])]⟩)] [[.ti,.ti]] (.nd) (.jn [12,13,14] [3,302150] [(0,⟨[(7,.fz .u DS)],[(14,.bx 52 [.i .i64,.i .u32,.sl .n 303200,.lb true]),(303200,.ar 54 DS)]⟩)] [[.tl DS,.ti,.ti,.tl DS]] (.sq (.nd) (.sq (.sq (.nd) (.mk [] [0,0,3,7,0,0,48,15,143,511])) (.nd))) (.fr [(2,303200)])))) (.nd))))) (.nd)))))
theorem e15 (k:Nat)(y:Tup ve):EX Tryz.f15 A15 ve [] R15 n15 [vy k,C45 k,C44 k,uT k] k y=oV k y.1 y.2.1 y.2.2.1 y.2.2.2.1 y.2.2.2.2:=by kernel_rfl
noncomputable def wJ (k:Nat):Au Tryz.prog:=CK 15 Tryz.func15 (e15 k)
noncomputable def gC (k:Nat)(x1:Int)(x2:Int)(x3:(List BZ))(x4:Bool)(x5:Int)(x6:Int)(x7:(List BZ))(x8:Bool):Option Int :=
cond (decide (x2 < x6)) (
some (-1)) (
some 1)
def A56:AQ:=⟨[.ag [.i .i64,.i .u32,.fz .u DS,.b],.ag [.i .i64,.i .u32,.fz .u DS,.b]],[]⟩
def ue:List Al:=[.ti,.ti,.tl DS,.tb,.ti,.ti,.tl DS,.tb]
def R56:List AP:=[⟨.i .i64,[],[.ti]⟩]
def n56:An:=.nd
theorem e56 (k:Nat)(y:Tup ue):EX Tryz.f56 A56 ue [] R56 n56 [] k y=gC k y.1 y.2.1 y.2.2.1 y.2.2.2.1 y.2.2.2.2.1 y.2.2.2.2.2.1 y.2.2.2.2.2.2.1 y.2.2.2.2.2.2.2:=by kernel_rfl
noncomputable def C56 (k:Nat):Au Tryz.prog:=CK 56 Tryz.func56 (e56 k)
noncomputable def nj (k:Nat)(x1:(List BA)):Option (List BA) :=
Nv (fun a b:BA=>gC k a.1 a.2.1 a.2.2.1 a.2.2.2 b.1 b.2.1 b.2.2.1 b.2.2.2) x1
def A55:AQ:=⟨[.sl .u 1000000,.c (.func (.func 56) #[] #[])],[(1000000,.ar 52 Cr)]⟩
def h55:List Al:=[.tl Cr]
def R55:List AP:=[⟨.tp [],[(1000000,.ar 52 Cr)],[.tl Cr]⟩]
noncomputable def vu (k:Nat):Au Tryz.prog:=⟨55,Tryz.f55,Tryz.func55,by kernel_rfl,by kernel_rfl,A55,h55,[],R55,fun y=>nj k y,fun y r h=>by
 have h2:Nv (fun a b:(Int × Int × (List (Int × Int × Int × ByteArray)) × Bool)=>gC k a.1 a.2.1 a.2.2.1 a.2.2.2 b.1 b.2.1 b.2.2.1 b.2.2.2) y=some r:=h
 exact OY.Yy (ρ:=Tryz.laysSlF06_f55_ren) (r:=(.int .i64 (.int .u32 (.sl (.int .i64 (.int .u32 (.int .u32 (.str .nil)))) (.bool .nil))))) Tryz.laysSlF06_f55 Tryz.isAgg52 Tryz.sizeOf52 (by decide) (enters Tryz.func56 (by kernel_rfl) (by kernel_rfl)) (fun a b n g=>@Au.ok ⟨true⟩ _ (@C56 ⟨true⟩ k) (a.1,a.2.1,a.2.2.1,a.2.2.2,b.1,b.2.1,b.2.2.1,b.2.2.2) n g) 52 (by decide) h2⟩
noncomputable def Wj (k:Nat)(x4:(List BA))(z24:(Int × (List (Int × BA)))):Option ((Int × (List (Int × BA))) ⊕ (List (Int × BA))) :=
cond (decide (z24.1 < (x4.length:Int))) (
(((ix x4 z24.1).bind fun a25 =>
(some ((Ai Da z24.2 a25.2.1).getD (0,0,([]:List BZ),false),(Ai Da z24.2 a25.2.1).isSome)).bind fun a26 =>
((cond (a25.2.1 != 0) (
cond (!a26.2) (
some true) (
some (decide (a26.1.1<=a25.1)))) (
some false):Option Bool)).bind fun y27 =>
cond y27 (
some (Be z24.2 a25.2.1 (a25.1,a25.2.1,a25.2.2.1,a25.2.2.2))) (
some z24.2):Option (List (Int × BA)))).bind fun y28 =>
some (.inl ((IntKind.wrap .i64 (z24.1+1)),y28))) (
some (.inr z24.2))
noncomputable def cX (k:Nat){R:Type}(z40:(((List (Int × BA)) × (List (Int × BA))) × (List BA)))(Kin:(((List (Int × BA)) × (List (Int × BA))) × (List BA))->Option R)(Kout:((List (Int × BA)) × (List BA))->Option R):Option R :=
cond z40.1.2.isEmpty (
Kout (z40.1.1,z40.2)) (
IY z40.1.2 fun j41=>fun a42 =>
Ao (decide ((z40.2.length+[(a42.2.1,a42.2.2.1,a42.2.2.2.1,a42.2.2.2.2)].length) * 48<=140737488355328)) <|
Kin ((z40.1.1,(List.eraseIdx z40.1.2 j41)),(z40.2 ++ [(a42.2.1,a42.2.2.1,a42.2.2.2.1,a42.2.2.2.2)])))
noncomputable def pV (k:Nat)(x1:Int)(x2:Int)(x3:Int)(x4:(List BA)):Option (Int × Int × Int × (List BA)) :=
(AB (Wj k x4) k (0,([]:List (Int × BA)))).bind fun y29 =>
Ec (cX k) k ((y29,y29),([]:List BA)) fun y43 =>
(nj k y43.2).bind fun y45 =>
some (x1,x2,x3,y45)
def A28:AQ:=⟨[.ag [.i .i64,.i .i64,.i .i64],.fz .u Cr],[]⟩
def vC:List Al:=[.ti,.ti,.ti,.tl Cr]
def R28:List AP:=[⟨.ag [.i .i64,.i .i64,.i .i64,.fz .u Cr],[],[.ti,.ti,.ti,.tl Cr]⟩]
def n28:An:=.sq (.nd) (.sq (.nd) (.sq (.sq (.nd) (.lp [2,4,5,14,15] [2,4] ⟨[(16,.i .i64)],[(13,.mp ⟨(.i .u32),true,Cr⟩)]⟩ [.ti,.tm ⟨(.i .u32),true,Cr⟩] [(2,⟨[],[(13,.mp ⟨(.i .u32),true,Cr⟩)]⟩)] [[.tm ⟨(.i .u32),true,Cr⟩]] (.sq (.nd) (.sq (.nd) (.jn [16] [] [(0,⟨[],[(13,.mp ⟨(.i .u32),true,Cr⟩)]⟩)] [[.tm ⟨(.i .u32),true,Cr⟩]] (.sq (.nd) (.sq (.nd) (.jn [7] [7,13] [(0,⟨[(40,.b)],[]⟩)] [[.tb]] (.nd) (.nd)))) (.nd)))))) (.sq (.nd) (.sq (.sq (.nd) (.lc [2,4,47] [2,4,47] ⟨[(10,.sl .n 301650)],[(13,.mq ⟨(.i .u32),true,Cr⟩ 47),(301650,.ar 52 Cr)]⟩ [.tq ⟨(.i .u32),true,Cr⟩,.tl Cr] [(4,⟨[(10,.sl .n 301675)],[(13,.mp ⟨(.i .u32),true,Cr⟩),(301675,.ar 52 Cr)]⟩)] [[.tm ⟨(.i .u32),true,Cr⟩,.tl Cr]] (.nd))) (.nd)))))
theorem e28 (k:Nat)(y:Tup vC):EX Tryz.f28 A28 vC [] R28 n28 [vu k] k y=pV k y.1 y.2.1 y.2.2.1 y.2.2.2:=by kernel_rfl
noncomputable def C28 (k:Nat):Au Tryz.prog:=CK 28 Tryz.func28 (e28 k)
noncomputable def ff (k:Nat)(x1:ByteArray)(x2:Int):Option (Int × Bool) :=
((cond (decide (x2 < 0)) (
some true) (
cond (decide ((x1.size:Int) < x2)) (
some true) (
some (decide ((IntKind.wrap .i64 ((x1.size:Int) - x2)) < 4)))):Option Bool)).bind fun y2 =>
cond y2 (
some (0,false)) (
Ao (Bn (x1.size:Int) x2 (x1.size:Int)) <|
Ao (decide (0<=(0:Int)/\(0:Int) < ((x1.extract x2.toNat ((x1.size:Int).toNat)).size:Int))) <|
Ao (decide (0<=(1:Int)/\(1:Int) < ((x1.extract x2.toNat ((x1.size:Int).toNat)).size:Int))) <|
Ao (decide (0<=(2:Int)/\(2:Int) < ((x1.extract x2.toNat ((x1.size:Int).toNat)).size:Int))) <|
Ao (decide (0<=(3:Int)/\(3:Int) < ((x1.extract x2.toNat ((x1.size:Int).toNat)).size:Int))) <|
some ((bits .or .u32 (bits .or .u32 (bits .or .u32 (IntKind.wrap .u32 (bt (x1.extract x2.toNat ((x1.size:Int).toNat)) 0)) (IntKind.wrap .u32 ((IntKind.wrap .u32 (bt (x1.extract x2.toNat ((x1.size:Int).toNat)) 1)) * 2 ^ 8))) (IntKind.wrap .u32 ((IntKind.wrap .u32 (bt (x1.extract x2.toNat ((x1.size:Int).toNat)) 2)) * 2 ^ 16))) (IntKind.wrap .u32 ((IntKind.wrap .u32 (bt (x1.extract x2.toNat ((x1.size:Int).toNat)) 3)) * 2 ^ 24))),true))
def qw:AQ:=⟨[.s,.i .i64],[]⟩
def oa:List Al:=[.ts,.ti]
def rj:List AP:=[⟨.tp [.i .u32,.b],[],[.ti,.tb]⟩]
def n149:An:=.sq (.nd) (.sq (.jn [0,1] [] [(0,⟨[(20,.b)],[]⟩)] [[.tb]] (.nd) (.nd)) (.sq (.nd) (.sq (.mk [] [0,1,3,0,8,24,56,127,0,256,768,1792,4095,0,8192,24576,57344,131071,262143,524287]) (.nd))))
theorem qM (k:Nat)(y:Tup oa):EX Tryz.f149 qw oa [] rj n149 [] k y=ff k y.1 y.2:=by kernel_rfl
noncomputable def sY (k:Nat):Au Tryz.prog:=CK 149 Tryz.func149 (qM k)
noncomputable def YJ (k:Nat)(x1:ByteArray)(x2:Int):Option Int :=
(ff k x1 (IntKind.wrap .i64 (4 * x2))).bind fun y2 =>
some y2.1
def A97:AQ:=⟨[.s,.i .i64],[]⟩
def ug:List Al:=[.ts,.ti]
def R97:List AP:=[⟨.i .u32,[],[.ti]⟩]
def n97:An:=.nd
theorem e97 (k:Nat)(y:Tup ug):EX Tryz.f97 A97 ug [] R97 n97 [sY k] k y=YJ k y.1 y.2:=by kernel_rfl
noncomputable def C97 (k:Nat):Au Tryz.prog:=CK 97 Tryz.func97 (e97 k)
noncomputable def gI (k:Nat)(x1:Int)(x2:Int)(x3:Int)(x4:ByteArray):Option (Int ⊕ (Int × Int × Int) ⊕ (Int × Int × ByteArray × Int) ⊕ (Int × Int × Int × Int × Int × Int × Int) ⊕ (Int × Int × Int × Int)) :=
((cond (decide (x2 < 1)) (
some true) (
some (decide (2147483647 < x2))):Option Bool)).bind fun y2 =>
cond y2 (
some (.inl 2)) (
((((cond (x1 == 1) (
some (x4.toList == (⟨#[]⟩:ByteArray).toList)) (
some false):Option Bool)).bind fun y18 =>
cond y18 (
some (.inr (.inl (x2,x3)))) (
((cond (x1 == 2) (
some (!(x4.toList == (⟨#[]⟩:ByteArray).toList))) (
some false):Option Bool)).bind fun y19 =>
cond y19 (
some (.inr (.inr (.inl (x2,x3,x4))))) (
((cond (x1 == 3) (
cond ((x4.size:Int) == 16) (
some (x3 != 0)) (
some false)) (
some false):Option Bool)).bind fun y20 =>
cond y20 (
(YJ k x4 0).bind fun y21 =>
(YJ k x4 1).bind fun y22 =>
(YJ k x4 2).bind fun y23 =>
(YJ k x4 3).bind fun y24 =>
((cond (decide (y21 < x2)) (
cond (decide (1<=y22)) (
cond (decide (y22<=x2)) (
some (y24 != 0)) (
some false)) (
some false)) (
some false):Option Bool)).bind fun y25 =>
cond y25 (
some (.inr (.inr (.inr (.inl (x2,x3,y21,y22,y23,y24)))))) (
some (.inl ()))) (
((cond (x1 == 4) (
some ((x4.size:Int) == 4)) (
some false):Option Bool)).bind fun y26 =>
cond y26 (
(YJ k x4 0).bind fun y27 =>
cond (decide (y27<=x2)) (
some (.inr (.inr (.inr (.inr (x2,x3,y27)))))) (
some (.inl ()))) (
some (.inl ()))))):Option YL)).bind fun y28 =>
BM (fun y29 =>
some (.inl 2)) (fun y30 =>
BM (fun y31 =>
some (.inr (.inl (y31.1,y31.2,0)))) (fun y32 =>
BM (fun y33 =>
some (.inr (.inr (.inl (y33.1,y33.2.1,y33.2.2,0))))) (fun y34 =>
BM (fun y35 =>
some (.inr (.inr (.inr (.inl (y35.1,y35.2.1,y35.2.2.1,y35.2.2.2.1,y35.2.2.2.2.1,y35.2.2.2.2.2,0)))))) (fun y36 =>
some (.inr (.inr (.inr (.inr (y36.1,y36.2.1,y36.2.2,0)))))) y34) y32) y30) y28)
def A58:AQ:=⟨[.ag [.i .i64,.i .u32,.i .u32,.s]],[]⟩
def uz:List Al:=[.ti,.ti,.ti,.ts]
def R58:List AP:=[⟨.tp [.c (.nilIface),.i .i64],[],[.ti]⟩,⟨.tp [.Aw 197 (.ag [.i .u32,.i .u32]),.i .i64],[],[.ti,.ti,.ti]⟩,⟨.tp [.Aw 199 (.ag [.i .u32,.i .u32,.s]),.i .i64],[],[.ti,.ti,.ts,.ti]⟩,⟨.tp [.Aw 192 (.ag [.i .u32,.i .u32,.i .u32,.i .u32,.i .u32,.i .u32]),.i .i64],[],[.ti,.ti,.ti,.ti,.ti,.ti,.ti]⟩,⟨.tp [.Aw 78 (.ag [.i .u32,.i .u32,.i .u32]),.i .i64],[],[.ti,.ti,.ti,.ti]⟩]
def n58:An:=.sq (.nd) (.sq (.jn [1] [1] [(0,⟨[(14,.b)],[]⟩)] [[.tb]] (.nd) (.nd)) (.jn [] [] [(0,⟨[],[]⟩),(1,⟨[(2,.Aw 197 (.ag [.i .u32,.i .u32])),(3,.li .i64 0)],[]⟩),(1,⟨[(2,.Aw 199 (.ag [.i .u32,.i .u32,.s])),(3,.li .i64 0)],[]⟩),(1,⟨[(2,.Aw 192 (.ag [.i .u32,.i .u32,.i .u32,.i .u32,.i .u32,.i .u32])),(3,.li .i64 0)],[]⟩),(1,⟨[(2,.Aw 78 (.ag [.i .u32,.i .u32,.i .u32])),(3,.li .i64 0)],[]⟩)] [[],[.ti,.ti],[.ti,.ti,.ts],[.ti,.ti,.ti,.ti,.ti,.ti],[.ti,.ti,.ti]] (.sq (.nd) (.jn [1,4] [1] [(0,⟨[(17,.b)],[]⟩)] [[.tb]] (.nd) (.sq (.nd) (.jn [1,4] [1] [(0,⟨[(31,.b)],[]⟩)] [[.tb]] (.nd) (.sq (.nd) (.jn [1,4] [1] [(0,⟨[(46,.b)],[]⟩)] [[.tb]] (.nd) (.sq (.sq (.mk [] [0,1,0,4,0,16,0,112,0,496,0,2032,4095,0,16383]) (.jn [5] [5] [(0,⟨[(94,.b)],[]⟩)] [[.tb]] (.nd) (.nd))) (.jn [1,4] [1] [(0,⟨[(97,.b)],[]⟩)] [[.tb]] (.nd) (.sq (.sq (.mk [] [0,1,0,4,0,16,63,0,255]) (.nd)) (.nd)))))))))) (.nd)))
theorem e58 (k:Nat)(y:Tup uz):EX Tryz.f58 A58 uz [] R58 n58 [C97 k] k y=gI k y.1 y.2.1 y.2.2.1 y.2.2.2:=by kernel_rfl
noncomputable def pN (k:Nat):Au Tryz.prog:=CK 58 Tryz.func58 (e58 k)
noncomputable def dz (k:Nat)(x1:Int)(x2:Int)(x3:Int):Option Bool :=
cond (decide (32<=x1)) (
cond (decide (x1<=128)) (
cond (decide (3<=x2)) (
cond (decide (x2<=10)) (
cond (decide (4<=x3)) (
some (decide (x3<=12))) (
some false)) (
some false)) (
some false)) (
some false)) (
some false)
def qy:AQ:=⟨[.ag [.i .i64,.i .i64,.i .i64]],[]⟩
def oB:List Al:=[.ti,.ti,.ti]
def rV:List AP:=[⟨.b,[],[.tb]⟩]
def n141:An:=.nd
theorem rY (k:Nat)(y:Tup oB):EX Tryz.f141 qy oB [] rV n141 [] k y=dz k y.1 y.2.1 y.2.2:=by kernel_rfl
noncomputable def qD (k:Nat):Au Tryz.prog:=CK 141 Tryz.func141 (rY k)
noncomputable def ng (k:Nat)(x1:Int)(x2:Int)(x3:Int):Option Int :=
(dz k x1 x2 x3).bind fun y3 =>
cond (!y3) (
some 0) (
some (IntKind.wrap .i64 (x2 - 1)))
def A93:AQ:=⟨[.ag [.i .i64,.i .i64,.i .i64]],[]⟩
def wK:List Al:=[.ti,.ti,.ti]
def R93:List AP:=[⟨.i .i64,[],[.ti]⟩]
def n93:An:=.nd
theorem e93 (k:Nat)(y:Tup wK):EX Tryz.f93 A93 wK [] R93 n93 [qD k] k y=ng k y.1 y.2.1 y.2.2:=by kernel_rfl
noncomputable def C93 (k:Nat):Au Tryz.prog:=CK 93 Tryz.func93 (e93 k)
noncomputable def lu (k:Nat)(z48:(Int × Int × (List BZ))):Option ((Int × Int × (List BZ)) ⊕ (List BZ)) :=
cond (decide (z48.1 < z48.2.1)) (
(ix z48.2.2 z48.2.1).bind fun a49 =>
(z48.2.2[z48.2.1.toNat]?).bind fun a50 =>
(ix z48.2.2 z48.1).bind fun a51 =>
(z48.2.2[z48.1.toNat]?).bind fun a52 =>
(ix z48.2.2 z48.1).bind fun a53 =>
((z48.2.2[z48.1.toNat]?).bind fun a54=>some (a50.1,a50.2.1,a50.2.2.1,a50.2.2.2)).bind fun a55 =>
(ix (z48.2.2.set z48.1.toNat a55) z48.2.1).bind fun a56 =>
(((z48.2.2.set z48.1.toNat a55)[z48.2.1.toNat]?).bind fun a57=>some (a52.1,a52.2.1,a52.2.2.1,a52.2.2.2)).bind fun a58 =>
some (.inl ((IntKind.wrap .i64 (z48.1+1)),(IntKind.wrap .i64 (z48.2.1 - 1)),((z48.2.2.set z48.1.toNat a55).set z48.2.1.toNat a58)))) (
some (.inr z48.2.2))
noncomputable def pT (k:Nat)(x1:(List BZ)):Option (List BZ) :=
(AB (lu k) k (0,(IntKind.wrap .i64 ((x1.length:Int) - 1)),x1)).bind fun y59 =>
some y59
def A94:AQ:=⟨[.sl .u 1000000],[(1000000,.ar 54 DS)]⟩
def vm:List Al:=[.tl DS]
def R94:List AP:=[⟨.tp [],[(1000000,.ar 54 DS)],[.tl DS]⟩]
def n94:An:=.sq (.nd) (.lp [0] [] ⟨[(2,.i .i64),(3,.i .i64)],[(1000000,.ar 54 DS)]⟩ [.ti,.ti,.tl DS] [(2,⟨[],[(1000000,.ar 54 DS)]⟩)] [[.tl DS]] (.sq (.nd) (.sq (.mk [] [0,0,0,0,0,0,48,112,0,0,768,1792,4083,8179,16383,32767]) (.nd))))
theorem e94 (k:Nat)(y:Tup vm):EX Tryz.f94 A94 vm [] R94 n94 [] k y=pT k y:=by kernel_rfl
noncomputable def C94 (k:Nat):Au Tryz.prog:=CK 94 Tryz.func94 (e94 k)
noncomputable def mV (k:Nat)(z48:(Int × Int × (List (Int × Int)))):Option ((Int × Int × (List (Int × Int))) ⊕ (List (Int × Int))) :=
cond (decide (z48.1 < z48.2.1)) (
(ix z48.2.2 z48.2.1).bind fun a49 =>
(z48.2.2[z48.2.1.toNat]?).bind fun a50 =>
(ix z48.2.2 z48.1).bind fun a51 =>
(z48.2.2[z48.1.toNat]?).bind fun a52 =>
(ix z48.2.2 z48.1).bind fun a53 =>
((z48.2.2[z48.1.toNat]?).bind fun a54=>some (a50.1,a50.2)).bind fun a55 =>
(ix (z48.2.2.set z48.1.toNat a55) z48.2.1).bind fun a56 =>
(((z48.2.2.set z48.1.toNat a55)[z48.2.1.toNat]?).bind fun a57=>some (a52.1,a52.2)).bind fun a58 =>
some (.inl ((IntKind.wrap .i64 (z48.1+1)),(IntKind.wrap .i64 (z48.2.1 - 1)),((z48.2.2.set z48.1.toNat a55).set z48.2.1.toNat a58)))) (
some (.inr z48.2.2))
noncomputable def pJ (k:Nat)(x1:(List (Int × Int))):Option (List (Int × Int)) :=
(AB (mV k) k (0,(IntKind.wrap .i64 ((x1.length:Int) - 1)),x1)).bind fun y59 =>
some y59
def A95:AQ:=⟨[.sl .u 1000000],[(1000000,.ar 50 Dr)]⟩
def vR:List Al:=[.tl Dr]
def R95:List AP:=[⟨.tp [],[(1000000,.ar 50 Dr)],[.tl Dr]⟩]
def n95:An:=.sq (.nd) (.lp [0] [] ⟨[(2,.i .i64),(3,.i .i64)],[(1000000,.ar 50 Dr)]⟩ [.ti,.ti,.tl Dr] [(2,⟨[],[(1000000,.ar 50 Dr)]⟩)] [[.tl Dr]] (.sq (.nd) (.sq (.mk [] [0,0,0,0,0,0,48,112,0,0,768,1792,4083,8179,16383,32767]) (.nd))))
theorem e95 (k:Nat)(y:Tup vR):EX Tryz.f95 A95 vR [] R95 n95 [] k y=pJ k y:=by kernel_rfl
noncomputable def C95 (k:Nat):Au Tryz.prog:=CK 95 Tryz.func95 (e95 k)
noncomputable def mH (k:Nat):Option (Int × Int × Int × Int × Int × Int × Bool) :=
some (0,0,0,0,0,0,false)
def rh:AQ:=⟨[.c (.nilIface)],[]⟩
def mJ:List Al:=[]
def uI:List AP:=[⟨.tp [.ag [.i .u32,.i .u32,.i .u32,.i .u32,.i .u32,.i .u32],.b],[],[.ti,.ti,.ti,.ti,.ti,.ti,.tb]⟩]
def n142:An:=.nd
theorem sL (k:Nat)(y:Tup mJ):EX Tryz.f142 rh mJ [] uI n142 [] k y=mH k:=by kernel_rfl
noncomputable def rm (k:Nat):Au Tryz.prog:=CK 142 Tryz.func142 (sL k)
noncomputable def oI (k:Nat):Option (Int × Int × ByteArray × Bool) :=
some (0,0,ByteArray.empty,false)
def qg:AQ:=⟨[.c (.nilIface)],[]⟩
def nH:List Al:=[]
def qR:List AP:=[⟨.tp [.ag [.i .u32,.i .u32,.s],.b],[],[.ti,.ti,.ts,.tb]⟩]
def n143:An:=.nd
theorem tt (k:Nat)(y:Tup nH):EX Tryz.f143 qg nH [] qR n143 [] k y=oI k:=by kernel_rfl
noncomputable def rS (k:Nat):Au Tryz.prog:=CK 143 Tryz.func143 (tt k)
noncomputable def iE (k:Nat)(x1:(List Int)):Option Unit :=
some ()
def qK:AQ:=⟨[.pt 1000000 0],[(1000000,.bx 252 [.sp 1000000,.sl .u 1000001]),(1000001,.ar 5 GD)]⟩
def qF:List Al:=[.tl GD]
def rr:List AP:=[⟨.tp [],[],[]⟩]
noncomputable def tO (k:Nat):Au Tryz.prog:=⟨175,Tryz.f175,Tryz.func175,by kernel_rfl,by kernel_rfl,qK,qF,[1000000,1000001],rr,fun y=>iE k y,fun y r h=>by
 have h2:some ()=some r:=h
 cases h2
 exact OY.Yt Tryz.bld_fresh Tryz.bld_used _ _⟩
noncomputable def Sb (k:Nat)(x1:ByteArray)(x2:(List Int)):Option (Int × (List Int)) :=
(iE k x2).bind fun y2 =>
Ao (decide (x2.length+x1.size<=140737488355328)) <|
some ((x1.size:Int),(x2 ++ (Ac x1)))
def qa:AQ:=⟨[.pt 1000000 0,.s],[(1000000,.bx 252 [.sp 1000000,.sl .u 1000001]),(1000001,.ar 5 GD)]⟩
def nr:List Al:=[.ts,.tl GD]
def qp:List AP:=[⟨.tp [.i .i64,.c (.nilIface)],[(1000000,.bx 252 [.sp 1000000,.sl .u 500000]),(1000001,.gone),(500000,.ar 5 GD)],[.ti,.tl GD]⟩]
def n144:An:=.nd
theorem qf (k:Nat)(y:Tup nr):EX Tryz.f144 qa nr [] qp n144 [tO k] k y=Sb k y.1 y.2:=by kernel_rfl
noncomputable def uD (k:Nat):Au Tryz.prog:=CK 144 Tryz.func144 (qf k)
noncomputable def dH (k:Nat)(x1:Int)(x2:Int):Option (Int × Int × ByteArray × Bool) :=
some (0,0,ByteArray.empty,false)
def ir:AQ:=⟨[.Aw 197 (.ag [.i .u32,.i .u32])],[]⟩
def bV:List Al:=[.ti,.ti]
def jy:List AP:=[⟨.tp [.ag [.i .u32,.i .u32,.s],.b],[],[.ti,.ti,.ts,.tb]⟩]
def kX:An:=.nd
theorem ju (k:Nat)(y:Tup bV):EX Tryz.f143 ir bV [] jy kX [] k y=dH k y.1 y.2:=by kernel_rfl
noncomputable def iv (k:Nat):Au Tryz.prog:=CK 143 Tryz.func143 (ju k)
noncomputable def Vz (k:Nat)(x1:Int)(x2:Int)(x3:ByteArray):Option (Int × Int × ByteArray × Bool) :=
some (x1,x2,x3,true)
def kV:AQ:=⟨[.Aw 199 (.ag [.i .u32,.i .u32,.s])],[]⟩
def ak:List Al:=[.ti,.ti,.ts]
def jq:List AP:=[⟨.tp [.ag [.i .u32,.i .u32,.s],.b],[],[.ti,.ti,.ts,.tb]⟩]
def kc:An:=.nd
theorem jz (k:Nat)(y:Tup ak):EX Tryz.f143 kV ak [] jq kc [] k y=Vz k y.1 y.2.1 y.2.2:=by kernel_rfl
noncomputable def kO (k:Nat):Au Tryz.prog:=CK 143 Tryz.func143 (jz k)
noncomputable def aV (k:Nat)(x1:Int)(x2:Int)(x3:Int)(x4:Int)(x5:Int)(x6:Int):Option (Int × Int × ByteArray × Bool) :=
some (0,0,ByteArray.empty,false)
def kq:AQ:=⟨[.Aw 192 (.ag [.i .u32,.i .u32,.i .u32,.i .u32,.i .u32,.i .u32])],[]⟩
def aZ:List Al:=[.ti,.ti,.ti,.ti,.ti,.ti]
def iT:List AP:=[⟨.tp [.ag [.i .u32,.i .u32,.s],.b],[],[.ti,.ti,.ts,.tb]⟩]
def kf:An:=.nd
theorem kE (k:Nat)(y:Tup aZ):EX Tryz.f143 kq aZ [] iT kf [] k y=aV k y.1 y.2.1 y.2.2.1 y.2.2.2.1 y.2.2.2.2.1 y.2.2.2.2.2:=by kernel_rfl
noncomputable def iX (k:Nat):Au Tryz.prog:=CK 143 Tryz.func143 (kE k)
noncomputable def cb (k:Nat)(x1:Int)(x2:Int)(x3:Int):Option (Int × Int × ByteArray × Bool) :=
some (0,0,ByteArray.empty,false)
def ib:AQ:=⟨[.Aw 78 (.ag [.i .u32,.i .u32,.i .u32])],[]⟩
def dF:List Al:=[.ti,.ti,.ti]
def jK:List AP:=[⟨.tp [.ag [.i .u32,.i .u32,.s],.b],[],[.ti,.ti,.ts,.tb]⟩]
def jX:An:=.nd
theorem kW (k:Nat)(y:Tup dF):EX Tryz.f143 ib dF [] jK jX [] k y=cb k y.1 y.2.1 y.2.2:=by kernel_rfl
noncomputable def jY (k:Nat):Au Tryz.prog:=CK 143 Tryz.func143 (kW k)
noncomputable def VD (k:Nat)(x1:(List Int)):Option Int :=
some (x1.length:Int)
def uJ:AQ:=⟨[.pt 1000000 0],[(1000000,.bx 252 [.sp 1000000,.sl .u 1000001]),(1000001,.ar 5 GD)]⟩
def oJ:List Al:=[.tl GD]
def qC:List AP:=[⟨.i .i64,[],[.ti]⟩]
def n145:An:=.nd
theorem rf (k:Nat)(y:Tup oJ):EX Tryz.f145 uJ oJ [1000000,1000001] qC n145 [] k y=VD k y:=by kernel_rfl
noncomputable def sd (k:Nat):Au Tryz.prog:=CK 145 Tryz.func145 (rf k)
noncomputable def SO (k:Nat)(x1:(List Int)):Option (ByteArray × (List Int)) :=
Ao (Kv x1) (some (strOfNums x1,x1))
def qq:AQ:=⟨[.pt 1000000 0],[(1000000,.bx 252 [.sp 1000000,.sl .u 1000001]),(1000001,.ar 5 GD)]⟩
def qI:List Al:=[.tl GD]
def ua:List AP:=[⟨.s,[(1000001,.ar 2000005 GD)],[.ts,.tl GD]⟩]
noncomputable def rB (k:Nat):Au Tryz.prog:=⟨147,Tryz.f147,Tryz.func147,by kernel_rfl,by kernel_rfl,qq,qI,[1000000],ua,fun y=>SO k y,fun y r h=>by
 have h2:Ao (Kv y) (some (strOfNums y,y))=some r:=h
 obtain ⟨hb,h3⟩:=Dm h2
 cases h3
 exact OY.NS (ρ:=Tryz.lays169_ren) Tryz.lays169 Tryz.Builder_Extra_169 (.inl rfl) (by decide) hb⟩
noncomputable def WK (k:Nat)(z6:(Int × Int)):Option ((Int × Int) ⊕ Int) :=
cond (decide (z6.2 < 8)) (
((cond ((bits .and .u32 z6.1 1) == 1) (
some (bits .xor .u32 (z6.1.fdiv (2 ^ 1)) 3988292384)) (
some (z6.1.fdiv (2 ^ 1))):Option Int)).bind fun y7 =>
some (.inl (y7,(IntKind.wrap .i64 (z6.2+1))))) (
some (.inr z6.1))
noncomputable def fG (k:Nat)(x1:Int)(x2:Int):Option Int :=
(AB (WK k) k ((bits .xor .u32 x1 (IntKind.wrap .u32 x2)),0)).bind fun y8 =>
some y8
def sA:AQ:=⟨[.i .u32,.i .u8],[]⟩
def nK:List Al:=[.ti,.ti]
def uC:List AP:=[⟨.i .u32,[],[.ti]⟩]
def n176:An:=.sq (.nd) (.sq (.nd) (.sq (.sq (.nd) (.lp [] [] ⟨[(0,.i .u32),(10,.i .i64)],[]⟩ [.ti,.ti] [(2,⟨[(0,.i .u32)],[]⟩)] [[.ti]] (.sq (.nd) (.sq (.nd) (.jn [10] [] [(0,⟨[(0,.i .u32)],[]⟩)] [[.ti]] (.nd) (.nd)))))) (.nd)))
theorem qd (k:Nat)(y:Tup nK):EX Tryz.f176 sA nK [] uC n176 [] k y=fG k y.1 y.2:=by kernel_rfl
noncomputable def rI (k:Nat):Au Tryz.prog:=CK 176 Tryz.func176 (qd k)
noncomputable def Iw (k:Nat)(a38:ByteArray)(z39:(Int × Int)):Option ((Int × Int) ⊕ Int) :=
cond (decide (z39.2 < (a38.size:Int))) (
Ao (decide (0<=z39.2/\z39.2 < (a38.size:Int))) <|
(fG k z39.1 (bt a38 z39.2)).bind fun y40 =>
some (.inl (y40,(IntKind.wrap .i64 (z39.2+1))))) (
some (.inr z39.1))
noncomputable def Kb (k:Nat)(x1:(List ByteArray))(z36:(Int × Int)):Option ((Int × Int) ⊕ Int) :=
cond (decide (z36.2 < (x1.length:Int))) (
(ix x1 z36.2).bind fun a37 =>
(x1[z36.2.toNat]?).bind fun a38 =>
(AB (Iw k a38) k (z36.1,0)).bind fun y41 =>
some (.inl (y41,(IntKind.wrap .i64 (z36.2+1))))) (
some (.inr z36.1))
noncomputable def Sc (k:Nat)(x1:(List ByteArray)):Option Int :=
(AB (Kb k x1) k (4294967295,0)).bind fun y42 =>
some (bits .xor .u32 4294967295 y42)
def uY:AQ:=⟨[.sl .u 1000000],[(1000000,.ar 9 (.str .nil))]⟩
def mQ:List Al:=[.tl (.str .nil)]
def su:List AP:=[⟨.i .u32,[],[.ti]⟩]
def n146:An:=.sq (.nd) (.sq (.nd) (.sq (.sq (.nd) (.lp [7,8] [] ⟨[(3,.i .u32),(9,.i .i64)],[]⟩ [.ti,.ti] [(2,⟨[(3,.i .u32)],[]⟩)] [[.ti]] (.sq (.nd) (.sq (.nd) (.sq (.sq (.nd) (.sq (.nd) (.lp [5,9,14] [] ⟨[(3,.i .u32),(15,.i .i64)],[]⟩ [.ti,.ti] [(4,⟨[(3,.i .u32)],[]⟩)] [[.ti]] (.nd)))) (.nd)))))) (.nd)))
theorem sG (k:Nat)(y:Tup mQ):EX Tryz.f146 uY mQ [1000000] su n146 [rI k] k y=Sc k y:=by kernel_rfl
noncomputable def qk (k:Nat):Au Tryz.prog:=CK 146 Tryz.func146 (sG k)
noncomputable def GM (k:Nat)(x1:(List Int)):Option (ByteArray × (List Int)) :=
Ao (Kv x1) (some (strOfNums x1,x1))
def jh:AQ:=⟨[.pt 1000000 0],[(1000000,.bx 252 [.sp 1000000,.sl .u 1000001]),(1000001,.ar 2000005 GD)]⟩
def kP:List Al:=[.tl GD]
def iH:List AP:=[⟨.s,[(1000001,.ar 2000005 GD)],[.ts,.tl GD]⟩]
noncomputable def jG (k:Nat):Au Tryz.prog:=⟨147,Tryz.f147,Tryz.func147,by kernel_rfl,by kernel_rfl,jh,kP,[1000000],iH,fun y=>GM k y,fun y r h=>by
 have h2:Ao (Kv y) (some (strOfNums y,y))=some r:=h
 obtain ⟨hb,h3⟩:=Dm h2
 cases h3
 exact OY.NS (ρ:=Tryz.lays169_ren) Tryz.lays169 Tryz.Builder_Extra_169 (.inr rfl) (by decide) hb⟩
noncomputable def JV (k:Nat)(x1:ByteArray)(x2:Int)(z11:(Int × Int)):Option ((Int × Int) ⊕ ((Int × Int × Int) ⊕ Unit)) :=
cond (decide (z11.2 < 5)) (
cond (decide ((x1.size:Int)<=(IntKind.wrap .i64 (x2+z11.2)))) (
some (.inr (.inl (0,0,3)))) (
Ao (decide (0<=(IntKind.wrap .i64 (x2+z11.2))/\(IntKind.wrap .i64 (x2+z11.2)) < (x1.size:Int))) <|
((cond (z11.2 == 4) (
cond (decide (15 < (bt x1 (IntKind.wrap .i64 (x2+z11.2))))) (
some true) (
cond (decide (0 < z11.2)) (
some ((bt x1 (IntKind.wrap .i64 (x2+z11.2))) == 0)) (
some false))) (
cond (decide (0 < z11.2)) (
some ((bt x1 (IntKind.wrap .i64 (x2+z11.2))) == 0)) (
some false)):Option Bool)).bind fun y12 =>
cond y12 (
some (.inr (.inl (0,0,2)))) (
Ao (decide (0<=(IntKind.wrap .i64 (7 * z11.2)))) <|
cond (decide ((bt x1 (IntKind.wrap .i64 (x2+z11.2))) < 128)) (
some (.inr (.inl ((bits .or .u32 z11.1 (IntKind.wrap .u32 ((IntKind.wrap .u32 (bits .and .u8 (bt x1 (IntKind.wrap .i64 (x2+z11.2))) 127)) * 2 ^ (min (IntKind.wrap .i64 (7 * z11.2)).toNat 32)))),(IntKind.wrap .i64 ((IntKind.wrap .i64 (x2+z11.2))+1)),0)))) (
some (.inl ((bits .or .u32 z11.1 (IntKind.wrap .u32 ((IntKind.wrap .u32 (bits .and .u8 (bt x1 (IntKind.wrap .i64 (x2+z11.2))) 127)) * 2 ^ (min (IntKind.wrap .i64 (7 * z11.2)).toNat 32)))),(IntKind.wrap .i64 (z11.2+1)))))))) (
some (.inr (.inr ())))
noncomputable def cm (k:Nat)(x1:ByteArray)(x2:Int):Option (Int × Int × Int) :=
((cond (decide (x2 < 0)) (
some true) (
some (decide ((x1.size:Int) < x2))):Option Bool)).bind fun y2 =>
cond y2 (
some (0,0,1)) (
(AB (JV k x1 x2) k (0,0)).bind fun y13 =>
BM (fun y14 =>
some (y14.1,y14.2.1,y14.2.2)) (fun y15 =>
some (0,0,2)) y13)
def uR:AQ:=⟨[.s,.i .i64],[]⟩
def mh:List Al:=[.ts,.ti]
def sV:List AP:=[⟨.tp [.i .u32,.i .i64,.i .i64],[],[.ti,.ti,.ti]⟩]
def n177:An:=.sq (.nd) (.sq (.jn [0,1] [] [(0,⟨[(17,.b)],[]⟩)] [[.tb]] (.nd) (.nd)) (.sq (.nd) (.sq (.sq (.nd) (.lp [0,1] [] ⟨[(7,.i .u32),(18,.i .i64)],[]⟩ [.ti,.ti] [(1,⟨[(4,.i .u32),(5,.i .i64),(6,.i .i64)],[]⟩),(2,⟨[],[]⟩)] [[.ti,.ti,.ti],[]] (.sq (.nd) (.sq (.nd) (.sq (.sq (.nd) (.sq (.nd) (.sq (.nd) (.sq (.jn [7,8,9,18] [] [(0,⟨[(45,.b)],[]⟩)] [[.tb]] (.nd) (.nd)) (.nd))))) (.nd)))))) (.nd))))
theorem uN (k:Nat)(y:Tup mh):EX Tryz.f177 uR mh [] sV n177 [] k y=cm k y.1 y.2:=by kernel_rfl
noncomputable def oC (k:Nat):Au Tryz.prog:=CK 177 Tryz.func177 (uN k)
noncomputable def bp (k:Nat)(x1:ByteArray)(x2:Int)(x3:Int):Option (ByteArray × Int × Int) :=
(cm k x1 x2).bind fun y2 =>
cond (y2.2.2 != 0) (
some ((⟨#[]⟩:ByteArray),0,y2.2.2)) (
cond (decide ((mx x3 0) < (IntKind.wrap .i64 y2.1))) (
some ((⟨#[]⟩:ByteArray),0,4)) (
cond (decide ((IntKind.wrap .i64 ((x1.size:Int) - y2.2.1)) < (IntKind.wrap .i64 y2.1))) (
some ((⟨#[]⟩:ByteArray),0,3)) (
Ao (Bn (x1.size:Int) y2.2.1 (IntKind.wrap .i64 (y2.2.1+(IntKind.wrap .i64 y2.1)))) <|
some ((x1.extract y2.2.1.toNat ((IntKind.wrap .i64 (y2.2.1+(IntKind.wrap .i64 y2.1))).toNat)),(IntKind.wrap .i64 (y2.2.1+(IntKind.wrap .i64 y2.1))),0))))
def tH:AQ:=⟨[.s,.i .i64,.i .i64],[]⟩
def la:List Al:=[.ts,.ti,.ti]
def tv:List AP:=[⟨.tp [.s,.i .i64,.i .i64],[],[.ts,.ti,.ti]⟩]
def n189:An:=.nd
theorem tZ (k:Nat)(y:Tup la):EX Tryz.f189 tH la [] tv n189 [oC k] k y=bp k y.1 y.2.1 y.2.2:=by kernel_rfl
noncomputable def ry (k:Nat):Au Tryz.prog:=CK 189 Tryz.func189 (tZ k)
noncomputable def eA (k:Nat)(x1:ByteArray)(x2:Int):Option (ByteArray × Bool × ByteArray × Int × Int) :=
cond (decide ((x1.size:Int)<=x2)) (
some (ByteArray.empty,false,ByteArray.empty,0,3)) (
Ao (decide (0<=x2/\x2 < (x1.size:Int))) <|
cond (decide (1 < (bt x1 x2))) (
some (ByteArray.empty,false,ByteArray.empty,0,2)) (
Ao (decide (0<=x2/\x2 < (x1.size:Int))) <|
(bp k x1 (IntKind.wrap .i64 (x2+1)) 48).bind fun y4 =>
((cond (y4.2.2 != 0) (
some true) (
some ((bt x1 x2) == 1)):Option Bool)).bind fun y5 =>
cond y5 (
some (y4.1,((bt x1 x2) == 1),ByteArray.empty,y4.2.1,y4.2.2)) (
(bp k x1 y4.2.1 48).bind fun y7 =>
some (y4.1,((bt x1 x2) == 1),y7.1,y7.2.1,y7.2.2))))
def qL:AQ:=⟨[.s,.i .i64],[]⟩
def mU:List Al:=[.ts,.ti]
def rJ:List AP:=[⟨.tp [.ag [.s,.b,.s],.i .i64,.i .i64],[],[.ts,.tb,.ts,.ti,.ti]⟩]
def n178:An:=.sq (.nd) (.sq (.nd) (.sq (.nd) (.sq (.nd) (.sq (.nd) (.sq (.sq (.nd) (.jn [0,1,4,7,8] [4,7] [(0,⟨[(38,.b)],[]⟩)] [[.tb]] (.nd) (.nd))) (.nd))))))
theorem qh (k:Nat)(y:Tup mU):EX Tryz.f178 qL mU [] rJ n178 [ry k] k y=eA k y.1 y.2:=by kernel_rfl
noncomputable def rR (k:Nat):Au Tryz.prog:=CK 178 Tryz.func178 (qh k)
noncomputable def eJ (k:Nat)(x1:ByteArray):Option (Int × Int) :=
some (((Go.Lib.decodeGo x1).1:Int),((Go.Lib.decodeGo x1).2:Int))
def tE:AQ:=⟨[.s],[]⟩
def sv:List Al:=[.ts]
def uS:List AP:=[⟨.tp [.i .i32,.i .i64],[],[.ti,.ti]⟩]
noncomputable def rH (k:Nat)(hm:Mo.m=false):Au Tryz.prog:=⟨194,Tryz.f194,Tryz.func194,by kernel_rfl,by kernel_rfl,tE,sv,[],uS,fun y=>eJ k y,fun y r h=>by
 have h2:some (((Go.Lib.decodeGo y).1:Int),((Go.Lib.decodeGo y).2:Int))=some r:=h
 cases h2
 exact OY.lib (vs:=[.string y]) rfl (fun _ _ _=>dM) fun w hw=>(Tryz.utf8_DecodeRuneInString y w (eQ (by kernel_rfl) (by kernel_rfl) hw)).mono fun e w2 g=>⟨g.1,g.2,fun g2=>by rw [hm] at g2; cases g2⟩⟩
noncomputable def FT (k:Nat)(x1:ByteArray)(z18:(Int × ByteArray × Nat)):Option ((Int × ByteArray × Nat) ⊕ ((ByteArray × Nat) ⊕ (Int × ByteArray × Nat))) :=
cond (decide (z18.2.2 < z18.2.1.size)) (
((cond (decide (12 < (IntKind.wrap .i64 (z18.1+1)))) (
some true) (
cond (decide (((Utf8.decode z18.2.1 z18.2.2).1:Int) < 33)) (
some true) (
cond (decide (127<=((Utf8.decode z18.2.1 z18.2.2).1:Int))) (
some (decide (((Utf8.decode z18.2.1 z18.2.2).1:Int)<=160))) (
some false))):Option Bool)).bind fun y19 =>
cond y19 (
some (.inr (.inl (z18.2.1,(z18.2.2+(Utf8.decode z18.2.1 z18.2.2).2))))) (
Ao (Bn (x1.size:Int) (z18.2.2:Int) (x1.size:Int)) <|
(eJ k (x1.extract ((z18.2.2:Int).toNat) ((x1.size:Int).toNat))).bind fun y20 =>
((cond (((Utf8.decode z18.2.1 z18.2.2).1:Int) == 65533) (
some (y20.2 == 1)) (
some false):Option Bool)).bind fun y21 =>
cond y21 (
some (.inr (.inl (z18.2.1,(z18.2.2+(Utf8.decode z18.2.1 z18.2.2).2))))) (
some (.inl ((IntKind.wrap .i64 (z18.1+1)),z18.2.1,(z18.2.2+(Utf8.decode z18.2.1 z18.2.2).2)))))) (
some (.inr (.inr (z18.1,z18.2.1,z18.2.2))))
noncomputable def Vu (k:Nat)(x1:ByteArray):Option Bool :=
(AB (FT k x1) k (0,x1,0)).bind fun y22 =>
BM (fun y23 =>
some false) (fun y24 =>
some (decide (0 < y24.1))) y22
def qc:AQ:=⟨[.s],[]⟩
def mS:List Al:=[.ts]
def sB:List AP:=[⟨.b,[],[.tb]⟩]
def n190:An:=.sq (.nd) (.sq (.nd) (.sq (.sq (.nd) (.lp [0,9] [] ⟨[(3,.i .i64)],[(9,.si)]⟩ [.ti,.ts,.tn] [(1,⟨[(2,.lb false)],[(9,.si)]⟩),(2,⟨[(3,.i .i64)],[(9,.si)]⟩)] [[.ts,.tn],[.ti,.ts,.tn]] (.sq (.nd) (.sq (.nd) (.sq (.nd) (.sq (.nd) (.sq (.jn [3,4,5] [9] [(0,⟨[(29,.b)],[]⟩)] [[.tb]] (.nd) (.nd)) (.sq (.nd) (.jn [3] [9] [(0,⟨[(42,.b)],[]⟩)] [[.tb]] (.nd) (.nd)))))))))) (.nd)))
theorem rq (k:Nat)(hm:Mo.m=false)(y:Tup mS):EX Tryz.f190 qc mS [] sB n190 [rH k hm] k y=Vu k y:=by kernel_rfl
noncomputable def tG (k:Nat)(hm:Mo.m=false):Au Tryz.prog:=CK 190 Tryz.func190 (rq k hm)
noncomputable def RE (k:Nat)(z3:(ByteArray × Nat × (List Int))):Option ((ByteArray × Nat × (List Int)) ⊕ (ByteArray × Nat × (List Int))) :=
cond (decide (z3.2.1 < z3.1.size)) (
Ao (decide ((z3.2.2.length+[((Utf8.decode z3.1 z3.2.1).1:Int)].length) * 4<=140737488355328)) <|
some (.inl (z3.1,(z3.2.1+(Utf8.decode z3.1 z3.2.1).2),(z3.2.2 ++ [((Utf8.decode z3.1 z3.2.1).1:Int)])))) (
some (.inr (z3.1,z3.2.1,z3.2.2)))
noncomputable def aH (k:Nat)(x1:ByteArray):Option (List Int) :=
(AB (RE k) k (x1,0,([]:List Int))).bind fun y4 =>
some y4.2.2
def qQ:AQ:=⟨[.s],[]⟩
def nA:List Al:=[.ts]
def sO:List AP:=[⟨.sl .u 500000,[(500000,.ar 21 (.int .i32 .nil))],[.tl (.int .i32 .nil)]⟩]
def n197:An:=.sq (.nd) (.sq (.nd) (.sq (.sq (.nd) (.lp [7] [] ⟨[(3,.sl .n 300400)],[(7,.si),(300400,.ar 21 (.int .i32 .nil))]⟩ [.ts,.tn,.tl (.int .i32 .nil)] [(2,⟨[(3,.sl .n 300425)],[(7,.si),(300425,.ar 21 (.int .i32 .nil))]⟩)] [[.ts,.tn,.tl (.int .i32 .nil)]] (.nd))) (.nd)))
theorem sr (k:Nat)(y:Tup nA):EX Tryz.f197 qQ nA [] sO n197 [] k y=aH k y:=by kernel_rfl
noncomputable def tM (k:Nat):Au Tryz.prog:=CK 197 Tryz.func197 (sr k)
noncomputable def dX (k:Nat)(x1:Int):Option Bool :=
some (x1 != x1)
def tg:AQ:=⟨[.i .i32],[]⟩
def nz:List Al:=[.ti]
def tA:List AP:=[⟨.b,[],[.tb]⟩]
def n200:An:=.nd
theorem tc (k:Nat)(y:Tup nz):EX Tryz.f200 tg nz [] tA n200 [] k y=dX k y:=by kernel_rfl
noncomputable def sN (k:Nat):Au Tryz.prog:=CK 200 Tryz.func200 (tc k)
noncomputable def Zf (k:Nat)(x1:Int)(x2:Int):Option Int :=
(dX k x1).bind fun y2 =>
(dX k x2).bind fun y4 =>
cond y2 (
cond y4 (
some 0) (
some (-1))) (
cond y4 (
some 1) (
cond (decide (x1 < x2)) (
some (-1)) (
cond (decide (x2 < x1)) (
some 1) (
some 0))))
def qT:AQ:=⟨[.i .i32,.i .i32],[]⟩
def nn:List Al:=[.ti,.ti]
def uK:List AP:=[⟨.i .i64,[],[.ti]⟩]
def n199:An:=.nd
theorem tQ (k:Nat)(y:Tup nn):EX Tryz.f199 qT nn [] uK n199 [sN k] k y=Zf k y.1 y.2:=by kernel_rfl
noncomputable def lx (k:Nat):Au Tryz.prog:=CK 199 Tryz.func199 (tQ k)
noncomputable def je (k:Nat)(x1:(List Int))(x2:(List Int))(z27:Int):Option (Int ⊕ (Int ⊕ Unit)) :=
cond (decide (z27 < (x1.length:Int))) (
(ix x1 z27).bind fun a28 =>
cond (decide ((x2.length:Int)<=z27)) (
some (.inr (.inl 1))) (
(ix x2 z27).bind fun a29 =>
(x2[z27.toNat]?).bind fun a30 =>
(Zf k a28 a30).bind fun y31 =>
cond (y31 != 0) (
some (.inr (.inl y31))) (
some (.inl (IntKind.wrap .i64 (z27+1)))))) (
some (.inr (.inr ())))
noncomputable def sn (k:Nat)(x1:(List Int))(x2:(List Int)):Option Int :=
(AB (je k x1 x2) k 0).bind fun y32 =>
BM (fun y33 =>
some y33) (fun y34 =>
cond (decide ((x1.length:Int) < (x2.length:Int))) (
some (-1)) (
some 0)) y32
def tC:AQ:=⟨[.fz .u (.int .i32 .nil),.sl .u 1000000],[(1000000,.ar 21 (.int .i32 .nil))]⟩
def mG:List Al:=[.tl (.int .i32 .nil),.tl (.int .i32 .nil)]
def sf:List AP:=[⟨.i .i64,[],[.ti]⟩]
def n198:An:=.sq (.nd) (.sq (.sq (.nd) (.lp [0,1,9,10] [] ⟨[(11,.i .i64)],[]⟩ [.ti] [(1,⟨[(4,.i .i64)],[]⟩),(2,⟨[],[]⟩)] [[.ti],[]] (.nd))) (.nd))
theorem sI (k:Nat)(y:Tup mG):EX Tryz.f198 tC mG [1000000] sf n198 [lx k] k y=sn k y.1 y.2:=by kernel_rfl
noncomputable def C198 (k:Nat):Au Tryz.prog:=CK 198 Tryz.func198 (sI k)
noncomputable def Mi (k:Nat)(x1:(List Int))(x2:(List Int))(z22:Int):Option (Int ⊕ (Int ⊕ Unit)) :=
cond (decide (z22 < (x1.length:Int))) (
(ix x1 z22).bind fun a23 =>
cond (decide ((x2.length:Int)<=z22)) (
some (.inr (.inl 1))) (
(ix x2 z22).bind fun a24 =>
(Zf k a23 a24).bind fun y25 =>
cond (y25 != 0) (
some (.inr (.inl y25))) (
some (.inl (IntKind.wrap .i64 (z22+1)))))) (
some (.inr (.inr ())))
noncomputable def RA (k:Nat)(x1:(List Int))(x2:(List Int)):Option Int :=
(AB (Mi k x1 x2) k 0).bind fun y26 =>
BM (fun y27 =>
some y27) (fun y28 =>
cond (decide ((x1.length:Int) < (x2.length:Int))) (
some (-1)) (
some 0)) y26
def jr:AQ:=⟨[.fz .u (.int .i32 .nil),.fz .u (.int .i32 .nil)],[]⟩
def cr:List Al:=[.tl (.int .i32 .nil),.tl (.int .i32 .nil)]
def jb:List AP:=[⟨.i .i64,[],[.ti]⟩]
def jA:An:=.sq (.nd) (.sq (.sq (.nd) (.lp [0,1,9,10] [] ⟨[(11,.i .i64)],[]⟩ [.ti] [(1,⟨[(4,.i .i64)],[]⟩),(2,⟨[],[]⟩)] [[.ti],[]] (.nd))) (.nd))
theorem kB (k:Nat)(y:Tup cr):EX Tryz.f198 jr cr [] jb jA [lx k] k y=RA k y.1 y.2:=by kernel_rfl
noncomputable def iW (k:Nat):Au Tryz.prog:=CK 198 Tryz.func198 (kB k)
noncomputable def aA (k:Nat)(x1:ByteArray)(x2:ByteArray):Option Int :=
(aH k x1).bind fun y3 =>
(aH k x2).bind fun y4 =>
(RA k y3 y4).bind fun y5 =>
some y5
def tV:AQ:=⟨[.s,.s],[]⟩
def oD:List Al:=[.ts,.ts]
def rU:List AP:=[⟨.i .i64,[],[.ti]⟩]
def n195:An:=.sq (.nd) (.sq (.nd) (.sq (.fr [(2,400800),(2,401000)]) (.nd)))
theorem rN (k:Nat)(y:Tup oD):EX Tryz.f195 tV oD [] rU n195 [tM k,iW k] k y=aA k y.1 y.2:=by kernel_rfl
noncomputable def uV (k:Nat):Au Tryz.prog:=CK 195 Tryz.func195 (rN k)
noncomputable def aR (k:Nat)(x1:ByteArray)(x2:ByteArray):Option Bool :=
(aA k x1 x2).bind fun y2 =>
cond (decide (y2 < 0)) (
some true) (
cond (y2 == 0) (
some (Op.bytesLess x1.toList x2.toList)) (
some false))
def ta:AQ:=⟨[.s,.s],[]⟩
def mC:List Al:=[.ts,.ts]
def uU:List AP:=[⟨.b,[],[.tb]⟩]
def n191:An:=.nd
theorem qU (k:Nat)(y:Tup mC):EX Tryz.f191 ta mC [] uU n191 [uV k] k y=aR k y.1 y.2:=by kernel_rfl
noncomputable def rP (k:Nat):Au Tryz.prog:=CK 191 Tryz.func191 (qU k)
noncomputable def Iq (k:Nat)(x1:(List Ab))(z40:Int):Option (Int ⊕ (Int ⊕ Unit)) :=
cond (decide (z40 < (x1.length:Int))) (
(ix x1 z40).bind fun a41 =>
(Vu k a41.1).bind fun y42 =>
cond (!y42) (
some (.inr (.inl 10))) (
cond (decide (48 < (a41.2.2.size:Int))) (
some (.inr (.inl 11))) (
((cond a41.2.1 (
cond (!(a41.2.2.toList == (⟨#[]⟩:ByteArray).toList)) (
some true) (
cond (decide (0 < z40)) (
(ix x1 (IntKind.wrap .i64 (z40 - 1))).bind fun a43 =>
(aR k a43.1 a41.1).bind fun y44 =>
some (!y44)) (
some false))) (
cond (decide (0 < z40)) (
(ix x1 (IntKind.wrap .i64 (z40 - 1))).bind fun a45 =>
(aR k a45.1 a41.1).bind fun y46 =>
some (!y46)) (
some false)):Option Bool)).bind fun y47 =>
cond y47 (
some (.inr (.inl 2))) (
some (.inl (IntKind.wrap .i64 (z40+1))))))) (
some (.inr (.inr ())))
noncomputable def ec (k:Nat)(x1:(List Ab)):Option Int :=
((cond (decide ((x1.length:Int) < 1)) (
some true) (
some (decide (8 < (x1.length:Int)))):Option Bool)).bind fun y2 =>
cond y2 (
some 12) (
(AB (Iq k x1) k 0).bind fun y48 =>
BM (fun y49 =>
some y49) (fun y50 =>
some 0) y48)
def se:AQ:=⟨[.fz .u CI],[]⟩
def ly:List Al:=[.tl CI]
def qb:List AP:=[⟨.i .i64,[],[.ti]⟩]
def n179:An:=.sq (.nd) (.sq (.jn [0] [] [(0,⟨[(12,.b)],[]⟩)] [[.tb]] (.nd) (.nd)) (.sq (.sq (.nd) (.lp [0,13,14] [] ⟨[(15,.i .i64)],[]⟩ [.ti] [(1,⟨[(2,.i .i64)],[]⟩),(2,⟨[],[]⟩)] [[.ti],[]] (.sq (.nd) (.sq (.nd) (.sq (.sq (.nd) (.sq (.nd) (.sq (.nd) (.sq (.nd) (.sq (.nd) (.jn [15] [] [(0,⟨[(30,.b)],[]⟩)] [[.tb]] (.mk [] [0,1,3,7,15,31,63,127,255,511,1023,2047,2047,6143,16383,32767,65535,2047,133119,524287,1048575,2097151,4194303,8388607]) (.nd))))))) (.nd)))))) (.nd)))
theorem sE (k:Nat)(hm:Mo.m=false)(y:Tup ly):EX Tryz.f179 se ly [] qb n179 [tG k hm,rP k] k y=ec k y:=by kernel_rfl
noncomputable def tS (k:Nat)(hm:Mo.m=false):Au Tryz.prog:=CK 179 Tryz.func179 (sE k hm)
noncomputable def Im (k:Nat)(x1:ByteArray)(y2:(Int × Int × Int))(z18:(Int × Int × (List Ab))):Option ((Int × Int × (List Ab)) ⊕ (Int ⊕ (Int × (List Ab)))) :=
cond (decide (z18.2.1 < y2.1)) (
(eA k x1 z18.1).bind fun y19 =>
cond (y19.2.2.2.2 != 0) (
some (.inr (.inl y19.2.2.2.2))) (
Ao (decide ((z18.2.2.length+[(y19.1,y19.2.1,y19.2.2.1)].length) * 40<=140737488355328)) <|
some (.inl (y19.2.2.2.1,(IntKind.wrap .u32 (z18.2.1+1)),(z18.2.2 ++ [(y19.1,y19.2.1,y19.2.2.1)]))))) (
some (.inr (.inr (z18.1,z18.2.2))))
noncomputable def TQ (k:Nat)(x1:ByteArray):Option ((List Ab) × Int) :=
(cm k x1 0).bind fun y2 =>
cond (y2.2.2 != 0) (
some (([]:List Ab),y2.2.2)) (
((cond (decide (y2.1 < 1)) (
some true) (
some (decide (8 < y2.1))):Option Bool)).bind fun y4 =>
cond y4 (
some (([]:List Ab),12)) (
(AB (Im k x1 y2) k (y2.2.1,0,([]:List Ab))).bind fun y20 =>
BM (fun y21 =>
some (([]:List Ab),y21)) (fun y22 =>
cond (decide (y22.1 < (x1.size:Int))) (
some (([]:List Ab),2)) (
(ec k y22.2).bind fun y25 =>
cond (y25 != 0) (
some (([]:List Ab),y25)) (
some (y22.2,0)))) y20))
def qi:AQ:=⟨[.s],[]⟩
def nS:List Al:=[.ts]
def qY:List AP:=[⟨.tp [.fz .u CI,.i .i64],[],[.tl CI,.ti]⟩]
def n148:An:=.sq (.nd) (.sq (.nd) (.sq (.nd) (.sq (.jn [0,4,5] [] [(0,⟨[(24,.b)],[]⟩)] [[.tb]] (.nd) (.nd)) (.sq (.nd) (.sq (.sq (.nd) (.lp [0,25] [] ⟨[(5,.i .i64),(7,.sl .n 301300),(26,.i .u32)],[(301300,.ar 148 CI)]⟩ [.ti,.ti,.tl CI] [(1,⟨[(2,.c (.slice none 0 0)),(3,.i .i64)],[]⟩),(2,⟨[(5,.i .i64),(7,.sl .n 301335)],[(301335,.ar 148 CI)]⟩)] [[.ti],[.ti,.tl CI]] (.nd))) (.sq (.nd) (.sq (.sq (.fr [(1,301335)]) (.nd)) (.nd))))))))
theorem re (k:Nat)(hm:Mo.m=false)(y:Tup nS):EX Tryz.f148 qi nS [] qY n148 [oC k,rR k,tS k hm] k y=TQ k y:=by kernel_rfl
noncomputable def qP (k:Nat)(hm:Mo.m=false):Au Tryz.prog:=CK 148 Tryz.func148 (re k hm)
noncomputable def cA (k:Nat)(x1:Int)(x2:Int):Option (Int × Int × Int × Int × Int × Int × Bool) :=
some (0,0,0,0,0,0,false)
def kM:AQ:=⟨[.Aw 197 (.ag [.i .u32,.i .u32])],[]⟩
def cq:List Al:=[.ti,.ti]
def jk:List AP:=[⟨.tp [.ag [.i .u32,.i .u32,.i .u32,.i .u32,.i .u32,.i .u32],.b],[],[.ti,.ti,.ti,.ti,.ti,.ti,.tb]⟩]
def kF:An:=.nd
theorem im (k:Nat)(y:Tup cq):EX Tryz.f142 kM cq [] jk kF [] k y=cA k y.1 y.2:=by kernel_rfl
noncomputable def jL (k:Nat):Au Tryz.prog:=CK 142 Tryz.func142 (im k)
noncomputable def aW (k:Nat)(x1:Int)(x2:Int)(x3:ByteArray):Option (Int × Int × Int × Int × Int × Int × Bool) :=
some (0,0,0,0,0,0,false)
def iK:AQ:=⟨[.Aw 199 (.ag [.i .u32,.i .u32,.s])],[]⟩
def cG:List Al:=[.ti,.ti,.ts]
def iO:List AP:=[⟨.tp [.ag [.i .u32,.i .u32,.i .u32,.i .u32,.i .u32,.i .u32],.b],[],[.ti,.ti,.ti,.ti,.ti,.ti,.tb]⟩]
def jo:An:=.nd
theorem kN (k:Nat)(y:Tup cG):EX Tryz.f142 iK cG [] iO jo [] k y=aW k y.1 y.2.1 y.2.2:=by kernel_rfl
noncomputable def kD (k:Nat):Au Tryz.prog:=CK 142 Tryz.func142 (kN k)
noncomputable def Vi (k:Nat)(x1:Int)(x2:Int)(x3:Int)(x4:Int)(x5:Int)(x6:Int):Option (Int × Int × Int × Int × Int × Int × Bool) :=
some (x1,x2,x3,x4,x5,x6,true)
def jJ:AQ:=⟨[.Aw 192 (.ag [.i .u32,.i .u32,.i .u32,.i .u32,.i .u32,.i .u32])],[]⟩
def cV:List Al:=[.ti,.ti,.ti,.ti,.ti,.ti]
def jx:List AP:=[⟨.tp [.ag [.i .u32,.i .u32,.i .u32,.i .u32,.i .u32,.i .u32],.b],[],[.ti,.ti,.ti,.ti,.ti,.ti,.tb]⟩]
def ik:An:=.nd
theorem lG (k:Nat)(y:Tup cV):EX Tryz.f142 jJ cV [] jx ik [] k y=Vi k y.1 y.2.1 y.2.2.1 y.2.2.2.1 y.2.2.2.2.1 y.2.2.2.2.2:=by kernel_rfl
noncomputable def lC (k:Nat):Au Tryz.prog:=CK 142 Tryz.func142 (lG k)
noncomputable def aP (k:Nat)(x1:Int)(x2:Int)(x3:Int):Option (Int × Int × Int × Int × Int × Int × Bool) :=
some (0,0,0,0,0,0,false)
def kg:AQ:=⟨[.Aw 78 (.ag [.i .u32,.i .u32,.i .u32])],[]⟩
def aU:List Al:=[.ti,.ti,.ti]
def kZ:List AP:=[⟨.tp [.ag [.i .u32,.i .u32,.i .u32,.i .u32,.i .u32,.i .u32],.b],[],[.ti,.ti,.ti,.ti,.ti,.ti,.tb]⟩]
def jc:An:=.nd
theorem jH (k:Nat)(y:Tup aU):EX Tryz.f142 kg aU [] kZ jc [] k y=aP k y.1 y.2.1 y.2.2:=by kernel_rfl
noncomputable def kh (k:Nat):Au Tryz.prog:=CK 142 Tryz.func142 (jH k)
noncomputable def Et (k:Nat)(x1:(List BZ))(y554:(Int × Int × Int × Int × Int × Int × Bool))(z557:(Int × (List Int))):Option ((Int × (List Int)) ⊕ ((List Int) ⊕ (List Int))) :=
cond (decide (z557.1 < ((cut x1 0 (IntKind.wrap .i64 ((x1.length:Int) - 1))).length:Int))) (
(((ix (cut x1 0 (IntKind.wrap .i64 ((x1.length:Int) - 1))) z557.1).bind fun a558 =>
(((gI k a558.1 a558.2.1 a558.2.2.1 a558.2.2.2).bind fun y559 =>
BM (fun y560 =>
some (.inl ())) (fun y561 =>
BM (fun y562 =>
some (.inr (.inl (y562.1,y562.2.1)))) (fun y563 =>
BM (fun y564 =>
some (.inr (.inr (.inl (y564.1,y564.2.1,y564.2.2.1))))) (fun y565 =>
BM (fun y566 =>
some (.inr (.inr (.inr (.inl (y566.1,y566.2.1,y566.2.2.1,y566.2.2.2.1,y566.2.2.2.2.1,y566.2.2.2.2.2.1)))))) (fun y567 =>
some (.inr (.inr (.inr (.inr (y567.1,y567.2.1,y567.2.2.1)))))) y565) y563) y561) y559:Option YL)).bind fun y568 =>
BM (fun y569 =>
(oI k).bind fun y571 =>
((cond (!y571.2.2.2) (
some true) (
cond (y571.1 != y554.1) (
some true) (
some (y571.2.1 != (IntKind.wrap .u32 z557.1)))):Option Bool)).bind fun y572 =>
cond y572 (
some (.inr z557.2)) (
(Sb k y571.2.2.1 z557.2).bind fun y573 =>
some (.inl y573.2))) (fun y570 =>
BM (fun y574 =>
(dH k y574.1 y574.2).bind fun y576 =>
((cond (!y576.2.2.2) (
some true) (
cond (y576.1 != y554.1) (
some true) (
some (y576.2.1 != (IntKind.wrap .u32 z557.1)))):Option Bool)).bind fun y577 =>
cond y577 (
some (.inr z557.2)) (
(Sb k y576.2.2.1 z557.2).bind fun y578 =>
some (.inl y578.2))) (fun y575 =>
BM (fun y579 =>
(Vz k y579.1 y579.2.1 y579.2.2).bind fun y581 =>
((cond (!y581.2.2.2) (
some true) (
cond (y581.1 != y554.1) (
some true) (
some (y581.2.1 != (IntKind.wrap .u32 z557.1)))):Option Bool)).bind fun y582 =>
cond y582 (
some (.inr z557.2)) (
(Sb k y581.2.2.1 z557.2).bind fun y583 =>
some (.inl y583.2))) (fun y580 =>
BM (fun y584 =>
(aV k y584.1 y584.2.1 y584.2.2.1 y584.2.2.2.1 y584.2.2.2.2.1 y584.2.2.2.2.2).bind fun y586 =>
((cond (!y586.2.2.2) (
some true) (
cond (y586.1 != y554.1) (
some true) (
some (y586.2.1 != (IntKind.wrap .u32 z557.1)))):Option Bool)).bind fun y587 =>
cond y587 (
some (.inr z557.2)) (
(Sb k y586.2.2.1 z557.2).bind fun y588 =>
some (.inl y588.2))) (fun y585 =>
(cb k y585.1 y585.2.1 y585.2.2).bind fun y589 =>
((cond (!y589.2.2.2) (
some true) (
cond (y589.1 != y554.1) (
some true) (
some (y589.2.1 != (IntKind.wrap .u32 z557.1)))):Option Bool)).bind fun y590 =>
cond y590 (
some (.inr z557.2)) (
(Sb k y589.2.2.1 z557.2).bind fun y591 =>
some (.inl y591.2))) y580) y575) y570) y568:Option ((List Int) ⊕ (List Int)))).bind fun y592 =>
BM (fun y593 =>
some (.inl ((IntKind.wrap .i64 (z557.1+1)),y593))) (fun y594 =>
some (.inr (.inl y594))) y592) (
some (.inr (.inr z557.2)))
noncomputable def oM (k:Nat)(x1:(List BZ)):Option (Int × Int × Int × (List Ab) × Int) :=
cond (decide ((x1.length:Int) < 2)) (
some (0,0,0,([]:List Ab),3)) (
(((ix x1 (IntKind.wrap .i64 ((x1.length:Int) - 1))).bind fun a11 =>
(gI k a11.1 a11.2.1 a11.2.2.1 a11.2.2.2).bind fun y12 =>
BM (fun y13 =>
some (.inl ())) (fun y14 =>
BM (fun y15 =>
some (.inr (.inl (y15.1,y15.2.1)))) (fun y16 =>
BM (fun y17 =>
some (.inr (.inr (.inl (y17.1,y17.2.1,y17.2.2.1))))) (fun y18 =>
BM (fun y19 =>
some (.inr (.inr (.inr (.inl (y19.1,y19.2.1,y19.2.2.1,y19.2.2.2.1,y19.2.2.2.2.1,y19.2.2.2.2.2.1)))))) (fun y20 =>
some (.inr (.inr (.inr (.inr (y20.1,y20.2.1,y20.2.2.1)))))) y18) y16) y14) y12:Option YL)).bind fun y21 =>
BM (fun y22 =>
(mH k).bind fun y25 =>
((cond (!y25.2.2.2.2.2.2) (
some true) (
some (y25.2.1 != (IntKind.wrap .u32 (IntKind.wrap .i64 ((x1.length:Int) - 1))))):Option Bool)).bind fun y27 =>
cond y27 (
some (0,0,0,([]:List Ab),2)) (
Ao (Bn (x1.length:Int) 0 (IntKind.wrap .i64 ((x1.length:Int) - 1))) <|
(AB (Et k x1 y25) k (0,([]:List Int))).bind fun y376 =>
BM (fun y377 =>
some (0,0,0,([]:List Ab),2)) (fun y378 =>
(((VD k y378).bind fun y386 =>
cond ((IntKind.wrap .u32 y386) != y25.2.2.2.2.2.1) (
some (true,y378)) (
(SO k y378).bind fun y387 =>
(Sc k [y387.1]).bind fun y388 =>
some ((y388 != y25.2.2.2.2.1),y387.2)):Option (Bool × (List Int)))).bind fun y389 =>
cond y389.1 (
some (0,0,0,([]:List Ab),5)) (
(GM k y389.2).bind fun y392 =>
(TQ k y392.1).bind fun y393 =>
cond (y393.2 != 0) (
some (0,0,0,([]:List Ab),y393.2)) (
some (y25.1,y25.2.2.1,y25.2.2.2.1,y393.1,0)))) y376)) (fun y23 =>
BM (fun y394 =>
(cA k y394.1 y394.2).bind fun y397 =>
((cond (!y397.2.2.2.2.2.2) (
some true) (
some (y397.2.1 != (IntKind.wrap .u32 (IntKind.wrap .i64 ((x1.length:Int) - 1))))):Option Bool)).bind fun y399 =>
cond y399 (
some (0,0,0,([]:List Ab),2)) (
Ao (Bn (x1.length:Int) 0 (IntKind.wrap .i64 ((x1.length:Int) - 1))) <|
(AB (Et k x1 y397) k (0,([]:List Int))).bind fun y438 =>
BM (fun y439 =>
some (0,0,0,([]:List Ab),2)) (fun y440 =>
(((VD k y440).bind fun y441 =>
cond ((IntKind.wrap .u32 y441) != y397.2.2.2.2.2.1) (
some (true,y440)) (
(SO k y440).bind fun y442 =>
(Sc k [y442.1]).bind fun y443 =>
some ((y443 != y397.2.2.2.2.1),y442.2)):Option (Bool × (List Int)))).bind fun y444 =>
cond y444.1 (
some (0,0,0,([]:List Ab),5)) (
(GM k y444.2).bind fun y445 =>
(TQ k y445.1).bind fun y446 =>
cond (y446.2 != 0) (
some (0,0,0,([]:List Ab),y446.2)) (
some (y397.1,y397.2.2.1,y397.2.2.2.1,y446.1,0)))) y438)) (fun y395 =>
BM (fun y447 =>
(aW k y447.1 y447.2.1 y447.2.2).bind fun y450 =>
((cond (!y450.2.2.2.2.2.2) (
some true) (
some (y450.2.1 != (IntKind.wrap .u32 (IntKind.wrap .i64 ((x1.length:Int) - 1))))):Option Bool)).bind fun y452 =>
cond y452 (
some (0,0,0,([]:List Ab),2)) (
Ao (Bn (x1.length:Int) 0 (IntKind.wrap .i64 ((x1.length:Int) - 1))) <|
(AB (Et k x1 y450) k (0,([]:List Int))).bind fun y491 =>
BM (fun y492 =>
some (0,0,0,([]:List Ab),2)) (fun y493 =>
(((VD k y493).bind fun y494 =>
cond ((IntKind.wrap .u32 y494) != y450.2.2.2.2.2.1) (
some (true,y493)) (
(SO k y493).bind fun y495 =>
(Sc k [y495.1]).bind fun y496 =>
some ((y496 != y450.2.2.2.2.1),y495.2)):Option (Bool × (List Int)))).bind fun y497 =>
cond y497.1 (
some (0,0,0,([]:List Ab),5)) (
(GM k y497.2).bind fun y498 =>
(TQ k y498.1).bind fun y499 =>
cond (y499.2 != 0) (
some (0,0,0,([]:List Ab),y499.2)) (
some (y450.1,y450.2.2.1,y450.2.2.2.1,y499.1,0)))) y491)) (fun y448 =>
BM (fun y500 =>
(Vi k y500.1 y500.2.1 y500.2.2.1 y500.2.2.2.1 y500.2.2.2.2.1 y500.2.2.2.2.2).bind fun y503 =>
((cond (!y503.2.2.2.2.2.2) (
some true) (
some (y503.2.1 != (IntKind.wrap .u32 (IntKind.wrap .i64 ((x1.length:Int) - 1))))):Option Bool)).bind fun y505 =>
cond y505 (
some (0,0,0,([]:List Ab),2)) (
Ao (Bn (x1.length:Int) 0 (IntKind.wrap .i64 ((x1.length:Int) - 1))) <|
(AB (Et k x1 y503) k (0,([]:List Int))).bind fun y544 =>
BM (fun y545 =>
some (0,0,0,([]:List Ab),2)) (fun y546 =>
(((VD k y546).bind fun y547 =>
cond ((IntKind.wrap .u32 y547) != y503.2.2.2.2.2.1) (
some (true,y546)) (
(SO k y546).bind fun y548 =>
(Sc k [y548.1]).bind fun y549 =>
some ((y549 != y503.2.2.2.2.1),y548.2)):Option (Bool × (List Int)))).bind fun y550 =>
cond y550.1 (
some (0,0,0,([]:List Ab),5)) (
(GM k y550.2).bind fun y551 =>
(TQ k y551.1).bind fun y552 =>
cond (y552.2 != 0) (
some (0,0,0,([]:List Ab),y552.2)) (
some (y503.1,y503.2.2.1,y503.2.2.2.1,y552.1,0)))) y544)) (fun y501 =>
(aP k y501.1 y501.2.1 y501.2.2).bind fun y554 =>
((cond (!y554.2.2.2.2.2.2) (
some true) (
some (y554.2.1 != (IntKind.wrap .u32 (IntKind.wrap .i64 ((x1.length:Int) - 1))))):Option Bool)).bind fun y556 =>
cond y556 (
some (0,0,0,([]:List Ab),2)) (
Ao (Bn (x1.length:Int) 0 (IntKind.wrap .i64 ((x1.length:Int) - 1))) <|
(AB (Et k x1 y554) k (0,([]:List Int))).bind fun y595 =>
BM (fun y596 =>
some (0,0,0,([]:List Ab),2)) (fun y597 =>
(((VD k y597).bind fun y598 =>
cond ((IntKind.wrap .u32 y598) != y554.2.2.2.2.2.1) (
some (true,y597)) (
(SO k y597).bind fun y599 =>
(Sc k [y599.1]).bind fun y600 =>
some ((y600 != y554.2.2.2.2.1),y599.2)):Option (Bool × (List Int)))).bind fun y601 =>
cond y601.1 (
some (0,0,0,([]:List Ab),5)) (
(GM k y601.2).bind fun y602 =>
(TQ k y602.1).bind fun y603 =>
cond (y603.2 != 0) (
some (0,0,0,([]:List Ab),y603.2)) (
some (y554.1,y554.2.2.1,y554.2.2.2.1,y603.1,0)))) y595)) y448) y395) y23) y21)
def A96:AQ:=⟨[.fz .u DS],[]⟩
def wI:List Al:=[.tl DS]
def R96:List AP:=[⟨.tp [.ag [.i .u32,.i .u32,.i .u32,.fz .u CI],.i .i64],[],[.ti,.ti,.ti,.tl CI,.ti]⟩]
def n96:An:=.sq (.nd) (.sq (.nd) (.sq (.nd) (.jn [0,2,4] [2] [(0,⟨[(5,.c (.nilIface))],[]⟩),(0,⟨[(5,.Aw 197 (.ag [.i .u32,.i .u32]))],[]⟩),(0,⟨[(5,.Aw 199 (.ag [.i .u32,.i .u32,.s]))],[]⟩),(0,⟨[(5,.Aw 192 (.ag [.i .u32,.i .u32,.i .u32,.i .u32,.i .u32,.i .u32]))],[]⟩),(0,⟨[(5,.Aw 78 (.ag [.i .u32,.i .u32,.i .u32]))],[]⟩)] [[],[.ti,.ti],[.ti,.ti,.ts],[.ti,.ti,.ti,.ti,.ti,.ti],[.ti,.ti,.ti]] (.nd) (.sq (.nd) (.sq (.jn [0,2,4,7] [2,7] [(0,⟨[(46,.b)],[]⟩)] [[.tb]] (.nd) (.nd)) (.sq (.nd) (.sq (.sq (.nd) (.lp [2,7,9,50,51] [7] ⟨[(52,.i .i64)],[(2,.bx 44 [.li .u32 0,.li .u32 0,.li .u32 0,.c (.slice none 0 0)]),(9,.bx 252 [.sp 9,.sl .u 301500]),(301500,.ar 5 GD)]⟩ [.ti,.tl GD] [(1,⟨[(3,.li .i64 2)],[(2,.bx 44 [.li .u32 0,.li .u32 0,.li .u32 0,.c (.slice none 0 0)]),(9,.bx 252 [.sp 9,.sl .u 301525]),(301525,.ar 5 GD)]⟩),(2,⟨[],[(2,.bx 44 [.li .u32 0,.li .u32 0,.li .u32 0,.c (.slice none 0 0)]),(9,.bx 252 [.sp 9,.sl .u 301535]),(301535,.ar 5 GD)]⟩)] [[.tl GD],[.tl GD]] (.sq (.nd) (.sq (.nd) (.jn [52] [] [(0,⟨[],[(2,.bx 44 [.li .u32 0,.li .u32 0,.li .u32 0,.c (.slice none 0 0)]),(9,.bx 252 [.sp 9,.sl .u 301850]),(301850,.ar 5 GD)]⟩),(1,⟨[(3,.li .i64 2)],[(2,.bx 44 [.li .u32 0,.li .u32 0,.li .u32 0,.c (.slice none 0 0)]),(9,.bx 252 [.sp 9,.sl .u 301500]),(301500,.ar 5 GD)]⟩)] [[.tl GD],[.tl GD]] (.sq (.nd) (.jn [10] [2,9,301500] [(0,⟨[(12,.c (.nilIface))],[]⟩),(0,⟨[(12,.Aw 197 (.ag [.i .u32,.i .u32]))],[]⟩),(0,⟨[(12,.Aw 199 (.ag [.i .u32,.i .u32,.s]))],[]⟩),(0,⟨[(12,.Aw 192 (.ag [.i .u32,.i .u32,.i .u32,.i .u32,.i .u32,.i .u32]))],[]⟩),(0,⟨[(12,.Aw 78 (.ag [.i .u32,.i .u32,.i .u32]))],[]⟩)] [[],[.ti,.ti],[.ti,.ti,.ts],[.ti,.ti,.ti,.ti,.ti,.ti],[.ti,.ti,.ti]] (.nd) (.sq (.nd) (.sq (.jn [14] [2,9,14,301500] [(0,⟨[(82,.b)],[]⟩)] [[.tb]] (.nd) (.nd)) (.nd))))) (.nd)))))) (.sq (.jn [2,7,9] [2,7,9] [(0,⟨[(100,.b)],[(301535,.ar 2000005 GD)]⟩)] [[.tb,.tl GD]] (.mk [] [0,1,0,4,15,31,63,127,255,63,575,2047,4095]) (.nd)) (.nd)))))))))
theorem e96 (k:Nat)(hm:Mo.m=false)(y:Tup wI):EX Tryz.f96 A96 wI [] R96 n96 [pN k,rm k,rS k,uD k,iv k,kO k,iX k,jY k,sd k,rB k,qk k,jG k,qP k hm,jL k,kD k,lC k,kh k] k y=oM k y:=by kernel_rfl
noncomputable def C96 (k:Nat)(hm:Mo.m=false):Au Tryz.prog:=CK 96 Tryz.func96 (e96 k hm)
noncomputable def Gl (k:Nat)(x1:Int)(x2:Int)(x3:Int)(x4:(List BA))(y30:(Int × Int × Int × Int × Int × Int))(z144:(Int × Int × Int × Int × (List BZ) × (List (Int × Int)))):Option ((Int × Int × Int × Int × (List BZ) × (List (Int × Int))) ⊕ (Unit ⊕ ((List BZ) × (List (Int × Int))))) :=
(((ix x4 z144.1).bind fun a145 =>
(ix a145.2.2.1 z144.2.1).bind fun a146 =>
Ao (decide ((z144.2.2.2.2.1.length+[(a146.1,a146.2.1,a146.2.2.1,a146.2.2.2)].length) * 32<=140737488355328)) <|
(ix x4 z144.1).bind fun a147 =>
Ao (decide ((z144.2.2.2.2.2.length+[(a147.1,(IntKind.wrap .i64 (z144.2.1+1)))].length) * 16<=140737488355328)) <|
cond (z144.2.2.2.1 == (IntKind.wrap .i64 y30.2.1)) (
some (.inr (.inr ((z144.2.2.2.2.1 ++ [(a146.1,a146.2.1,a146.2.2.1,a146.2.2.2)]),(z144.2.2.2.2.2 ++ [(a147.1,(IntKind.wrap .i64 (z144.2.1+1)))]))))) (
cond (decide (0 < z144.2.1)) (
some (.inl (z144.1,(IntKind.wrap .i64 (z144.2.1 - 1)),z144.2.2.1,(z144.2.2.2.2.1 ++ [(a146.1,a146.2.1,a146.2.2.1,a146.2.2.2)]),(z144.2.2.2.2.2 ++ [(a147.1,(IntKind.wrap .i64 (z144.2.1+1)))])))) (
((cond (z144.1 == 0) (
some true) (
cond (decide ((IntKind.wrap .i64 (x3 - 2)) < (IntKind.wrap .i64 (z144.2.2.1+1)))) (
some true) (
(ix x4 (IntKind.wrap .i64 (z144.1 - 1))).bind fun a148 =>
(ix x4 z144.1).bind fun a149 =>
cond ((IntKind.wrap .u32 (a148.2.1+1)) != a149.2.1) (
some true) (
(ix x4 (IntKind.wrap .i64 (z144.1 - 1))).bind fun a150 =>
(ng k x1 x2 x3).bind fun y151 =>
some ((a150.2.2.1.length:Int) != y151)))):Option Bool)).bind fun y152 =>
cond y152 (
some (.inr (.inl ()))) (
(ix x4 (IntKind.wrap .i64 (z144.1 - 1))).bind fun a153 =>
cond (decide ((IntKind.wrap .i64 ((a153.2.2.1.length:Int) - 1)) < 0)) (
some (.inr (.inl ()))) (
some (.inl ((IntKind.wrap .i64 (z144.1 - 1)),(IntKind.wrap .i64 ((a153.2.2.1.length:Int) - 1)),(IntKind.wrap .i64 (z144.2.2.1+1)),(z144.2.2.2.2.1 ++ [(a146.1,a146.2.1,a146.2.2.1,a146.2.2.2)]),(z144.2.2.2.2.2 ++ [(a147.1,(IntKind.wrap .i64 (z144.2.1+1)))]))))))):Option ((Int × Int × Int × (List BZ) × (List (Int × Int))) ⊕ Unit ⊕ ((List BZ) × (List (Int × Int)))))).bind fun y154 =>
BM (fun y155 =>
some (.inl (y155.1,y155.2.1,y155.2.2.1,(IntKind.wrap .i64 (z144.2.2.2.1+1)),y155.2.2.2.1,y155.2.2.2.2))) (fun y156 =>
BM (fun y157 =>
some (.inr (.inl ()))) (fun y158 =>
some (.inr (.inr (y158.1,y158.2)))) y156) y154
noncomputable def pM (k:Nat)(x1:Int)(x2:Int)(x3:Int)(x4:(List BA))(x5:Int)(x6:Int):Option (Int × Int × Int × (List Ab) × (List (Int × Int)) × Bool) :=
(((ix x4 x5).bind fun a12 =>
(ix a12.2.2.1 x6).bind fun a13 =>
(gI k a13.1 a13.2.1 a13.2.2.1 a13.2.2.2).bind fun y14 =>
BM (fun y15 =>
some (.inl ())) (fun y16 =>
BM (fun y17 =>
some (.inr (.inl (y17.1,y17.2.1)))) (fun y18 =>
BM (fun y19 =>
some (.inr (.inr (.inl (y19.1,y19.2.1,y19.2.2.1))))) (fun y20 =>
BM (fun y21 =>
some (.inr (.inr (.inr (.inl (y21.1,y21.2.1,y21.2.2.1,y21.2.2.2.1,y21.2.2.2.2.1,y21.2.2.2.2.2.1)))))) (fun y22 =>
some (.inr (.inr (.inr (.inr (y22.1,y22.2.1,y22.2.2.1)))))) y20) y18) y16) y14:Option YL)).bind fun y23 =>
BM (fun y24 =>
some (0,0,0,([]:List Ab),([]:List (Int × Int)),false)) (fun y25 =>
BM (fun y26 =>
some (0,0,0,([]:List Ab),([]:List (Int × Int)),false)) (fun y27 =>
BM (fun y28 =>
some (0,0,0,([]:List Ab),([]:List (Int × Int)),false)) (fun y29 =>
BM (fun y30 =>
(AB (Gl k x1 x2 x3 x4 y30) k (x5,x6,1,0,([]:List BZ),([]:List (Int × Int)))).bind fun y159 =>
BM (fun y160 =>
some (0,0,0,([]:List Ab),([]:List (Int × Int)),false)) (fun y161 =>
(pT k y161.1).bind fun y163 =>
(pJ k y161.2).bind fun y165 =>
(oM k y163).bind fun y167 =>
some (y167.1,y167.2.1,y167.2.2.1,y167.2.2.2.1,y165,(y167.2.2.2.2 == 0))) y159) (fun y31 =>
some (0,0,0,([]:List Ab),([]:List (Int × Int)),false)) y29) y27) y25) y23
def A57:AQ:=⟨[.ag [.i .i64,.i .i64,.i .i64,.fz .u Cr],.i .i64,.i .i64],[]⟩
def vl:List Al:=[.ti,.ti,.ti,.tl Cr,.ti,.ti]
def R57:List AP:=[⟨.tp [.ag [.i .u32,.i .u32,.i .u32,.fz .u CI,.fz .u Dr],.b],[],[.ti,.ti,.ti,.tl CI,.tl Dr,.tb]⟩]
def n57:An:=.sq (.nd) (.jn [1,2,3,6] [3,6] [(0,⟨[(8,.c (.nilIface))],[]⟩),(0,⟨[(8,.Aw 197 (.ag [.i .u32,.i .u32]))],[]⟩),(0,⟨[(8,.Aw 199 (.ag [.i .u32,.i .u32,.s]))],[]⟩),(0,⟨[(8,.Aw 192 (.ag [.i .u32,.i .u32,.i .u32,.i .u32,.i .u32,.i .u32]))],[]⟩),(0,⟨[(8,.Aw 78 (.ag [.i .u32,.i .u32,.i .u32]))],[]⟩)] [[],[.ti,.ti],[.ti,.ti,.ts],[.ti,.ti,.ti,.ti,.ti,.ti],[.ti,.ti,.ti]] (.nd) (.sq (.nd) (.sq (.nd) (.sq (.nd) (.sq (.nd) (.sq (.nd) (.sq (.sq (.nd) (.lp [3,6,10] [3,10] ⟨[(1,.i .i64),(2,.i .i64),(12,.sl .n 301200),(13,.sl .n 301201),(14,.i .i64),(15,.i .i64)],[(6,.bx 47 [.li .u32 0,.li .u32 0,.li .u32 0,.c (.slice none 0 0),.c (.slice none 0 0)]),(301200,.ar 54 DS),(301201,.ar 50 Dr)]⟩ [.ti,.ti,.ti,.ti,.tl DS,.tl Dr] [(1,⟨[(7,.lb false)],[(6,.bx 47 [.li .u32 0,.li .u32 0,.li .u32 0,.c (.slice none 0 0),.c (.slice none 0 0)])]⟩),(2,⟨[(12,.sl .n 301235),(13,.sl .n 301236)],[(6,.bx 47 [.li .u32 0,.li .u32 0,.li .u32 0,.c (.slice none 0 0),.c (.slice none 0 0)]),(301235,.ar 54 DS),(301236,.ar 50 Dr)]⟩)] [[],[.tl DS,.tl Dr]] (.jn [15] [] [(0,⟨[(1,.i .i64),(2,.i .i64),(12,.sl .n 301250),(13,.sl .n 301251),(14,.i .i64)],[(6,.bx 47 [.li .u32 0,.li .u32 0,.li .u32 0,.c (.slice none 0 0),.c (.slice none 0 0)]),(301250,.ar 54 DS),(301251,.ar 50 Dr)]⟩),(1,⟨[(7,.lb false)],[(6,.bx 47 [.li .u32 0,.li .u32 0,.li .u32 0,.c (.slice none 0 0),.c (.slice none 0 0)])]⟩),(2,⟨[(12,.sl .n 301270),(13,.sl .n 301271)],[(6,.bx 47 [.li .u32 0,.li .u32 0,.li .u32 0,.c (.slice none 0 0),.c (.slice none 0 0)]),(301270,.ar 54 DS),(301271,.ar 50 Dr)]⟩)] [[.ti,.ti,.ti,.tl DS,.tl Dr],[],[.tl DS,.tl Dr]] (.sq (.nd) (.sq (.nd) (.sq (.nd) (.sq (.nd) (.sq (.nd) (.sq (.jn [1,12,13,14] [6,52,64] [(0,⟨[(116,.b)],[]⟩)] [[.tb]] (.mk [] [0,1,3,7,7,23,55,119,255,511,1023,2047,4095,2047,10239,32767,65535,131071,262143,2047,526335,2047,3672063,7866367,16254975,33554431,67108863,134217727,268435455,536870911,268435455,1342177279,4294967295,8589934591,17179869183,34359738367,268435455,68987912191,206426865663,549755813887,1099511627775]) (.nd)) (.nd))))))) (.nd)))) (.sq (.nd) (.sq (.nd) (.sq (.fr [(1,301235)]) (.nd)))))))))))
theorem e57 (k:Nat)(hm:Mo.m=false)(y:Tup vl):EX Tryz.f57 A57 vl [] R57 n57 [pN k,C93 k,C94 k,C95 k,C96 k hm] k y=pM k y.1 y.2.1 y.2.2.1 y.2.2.2.1 y.2.2.2.2.1 y.2.2.2.2.2:=by kernel_rfl
noncomputable def C57 (k:Nat)(hm:Mo.m=false):Au Tryz.prog:=CK 57 Tryz.func57 (e57 k hm)
noncomputable def Qg (k:Nat)(a49:BA)(x1:Int)(x2:Int)(x3:Int)(x4:(List BA))(z48:(Int × (List Ct)))(z50:(Int × (List Ct))):Option ((Int × (List Ct)) ⊕ (List Ct)) :=
cond (decide (z50.1 < (a49.2.2.1.length:Int))) (
(((pM k x1 x2 x3 x4 z48.1 z50.1).bind fun y51 =>
cond y51.2.2.2.2.2 (
Ao (decide ((z50.2.length+[(y51.1,y51.2.1,y51.2.2.1,y51.2.2.2.1,y51.2.2.2.2.1)].length) * 64<=140737488355328)) <|
some (z50.2 ++ [(y51.1,y51.2.1,y51.2.2.1,y51.2.2.2.1,y51.2.2.2.2.1)])) (
some z50.2):Option (List Ct))).bind fun y52 =>
some (.inl ((IntKind.wrap .i64 (z50.1+1)),y52))) (
some (.inr z50.2))
noncomputable def XV (k:Nat)(x1:Int)(x2:Int)(x3:Int)(x4:(List BA))(z48:(Int × (List Ct))):Option ((Int × (List Ct)) ⊕ (List Ct)) :=
cond (decide (z48.1 < (x4.length:Int))) (
(ix x4 z48.1).bind fun a49 =>
(AB (Qg k a49 x1 x2 x3 x4 z48) k (0,z48.2)).bind fun y53 =>
some (.inl ((IntKind.wrap .i64 (z48.1+1)),y53))) (
some (.inr z48.2))
noncomputable def lT (k:Nat)(x1:Int)(x2:Int)(x3:Int)(x4:(List BA)):Option (List Ct) :=
(AB (XV k x1 x2 x3 x4) k (0,([]:List Ct))).bind fun y54 =>
some y54
def A29:AQ:=⟨[.ag [.i .i64,.i .i64,.i .i64,.fz .u Cr]],[]⟩
def wL:List Al:=[.ti,.ti,.ti,.tl Cr]
def R29:List AP:=[⟨.sl .u 500000,[(500000,.ar 47 Cq)],[.tl Cq]⟩]
def n29:An:=.sq (.nd) (.sq (.nd) (.sq (.sq (.nd) (.lp [1,10,11] [1] ⟨[(3,.sl .n 300400),(12,.i .i64)],[(300400,.ar 47 Cq)]⟩ [.ti,.tl Cq] [(2,⟨[(3,.sl .n 300425)],[(300425,.ar 47 Cq)]⟩)] [[.tl Cq]] (.sq (.nd) (.sq (.nd) (.sq (.sq (.nd) (.sq (.nd) (.lp [4,12,19] [] ⟨[(3,.sl .n 301100),(20,.i .i64)],[(301100,.ar 47 Cq)]⟩ [.ti,.tl Cq] [(4,⟨[(3,.sl .n 301125)],[(301125,.ar 47 Cq)]⟩)] [[.tl Cq]] (.sq (.nd) (.sq (.nd) (.jn [20] [] [(0,⟨[(3,.sl .n 301450)],[(301450,.ar 47 Cq)]⟩)] [[.tl Cq]] (.nd) (.nd))))))) (.nd)))))) (.nd)))
theorem e29 (k:Nat)(hm:Mo.m=false)(y:Tup wL):EX Tryz.f29 A29 wL [] R29 n29 [C57 k hm] k y=lT k y.1 y.2.1 y.2.2.1 y.2.2.2:=by kernel_rfl
noncomputable def um (k:Nat)(hm:Mo.m=false):Au Tryz.prog:=CK 29 Tryz.func29 (e29 k hm)
noncomputable def vi (k:Nat):Option (Int × Int × Int × Bool) :=
some (0,0,0,false)
def A59:AQ:=⟨[.c (.nilIface)],[]⟩
def vx:List Al:=[]
def R59:List AP:=[⟨.tp [.ag [.i .u32,.i .u32,.i .u32],.b],[],[.ti,.ti,.ti,.tb]⟩]
def n59:An:=.nd
theorem e59 (k:Nat)(y:Tup vx):EX Tryz.f59 A59 vx [] R59 n59 [] k y=vi k:=by kernel_rfl
noncomputable def C59 (k:Nat):Au Tryz.prog:=CK 59 Tryz.func59 (e59 k)
noncomputable def gS (k:Nat)(x1:Int)(x2:Int):Option (Int × Int × Int × Bool) :=
some (0,0,0,false)
def nU:AQ:=⟨[.Aw 197 (.ag [.i .u32,.i .u32])],[]⟩
def gV:List Al:=[.ti,.ti]
def pF:List AP:=[⟨.tp [.ag [.i .u32,.i .u32,.i .u32],.b],[],[.ti,.ti,.ti,.tb]⟩]
def lr:An:=.nd
theorem oT (k:Nat)(y:Tup gV):EX Tryz.f59 nU gV [] pF lr [] k y=gS k y.1 y.2:=by kernel_rfl
noncomputable def ny (k:Nat):Au Tryz.prog:=CK 59 Tryz.func59 (oT k)
noncomputable def gF (k:Nat)(x1:Int)(x2:Int)(x3:ByteArray):Option (Int × Int × Int × Bool) :=
some (0,0,0,false)
def mc:AQ:=⟨[.Aw 199 (.ag [.i .u32,.i .u32,.s])],[]⟩
def gq:List Al:=[.ti,.ti,.ts]
def mm:List AP:=[⟨.tp [.ag [.i .u32,.i .u32,.i .u32],.b],[],[.ti,.ti,.ti,.tb]⟩]
def mD:An:=.nd
theorem mK (k:Nat)(y:Tup gq):EX Tryz.f59 mc gq [] mm mD [] k y=gF k y.1 y.2.1 y.2.2:=by kernel_rfl
noncomputable def oQ (k:Nat):Au Tryz.prog:=CK 59 Tryz.func59 (mK k)
noncomputable def gp (k:Nat)(x1:Int)(x2:Int)(x3:Int)(x4:Int)(x5:Int)(x6:Int):Option (Int × Int × Int × Bool) :=
some (0,0,0,false)
def oX:AQ:=⟨[.Aw 192 (.ag [.i .u32,.i .u32,.i .u32,.i .u32,.i .u32,.i .u32])],[]⟩
def gG:List Al:=[.ti,.ti,.ti,.ti,.ti,.ti]
def mg:List AP:=[⟨.tp [.ag [.i .u32,.i .u32,.i .u32],.b],[],[.ti,.ti,.ti,.tb]⟩]
def ma:An:=.nd
theorem lh (k:Nat)(y:Tup gG):EX Tryz.f59 oX gG [] mg ma [] k y=gp k y.1 y.2.1 y.2.2.1 y.2.2.2.1 y.2.2.2.2.1 y.2.2.2.2.2:=by kernel_rfl
noncomputable def nb (k:Nat):Au Tryz.prog:=CK 59 Tryz.func59 (lh k)
noncomputable def gf (k:Nat)(x1:Int)(x2:Int)(x3:Int):Option (Int × Int × Int × Bool) :=
some (x1,x2,x3,true)
def nO:AQ:=⟨[.Aw 78 (.ag [.i .u32,.i .u32,.i .u32])],[]⟩
def gZ:List Al:=[.ti,.ti,.ti]
def lZ:List AP:=[⟨.tp [.ag [.i .u32,.i .u32,.i .u32],.b],[],[.ti,.ti,.ti,.tb]⟩]
def nF:An:=.nd
theorem nN (k:Nat)(y:Tup gZ):EX Tryz.f59 nO gZ [] lZ nF [] k y=gf k y.1 y.2.1 y.2.2:=by kernel_rfl
noncomputable def nR (k:Nat):Au Tryz.prog:=CK 59 Tryz.func59 (nN k)
noncomputable def Nx (k:Nat)(a583:BA)(z584:(Int × Bool × Int × Int × Int × Int)):Option ((Int × Bool × Int × Int × Int × Int) ⊕ (Int × Bool × Int × Int × Int)) :=
cond (decide (z584.2.2.1 < (a583.2.2.1.length:Int))) (
(((ix a583.2.2.1 z584.2.2.1).bind fun a585 =>
(((gI k a585.1 a585.2.1 a585.2.2.1 a585.2.2.2).bind fun y586 =>
BM (fun y587 =>
some (.inl ())) (fun y588 =>
BM (fun y589 =>
some (.inr (.inl (y589.1,y589.2.1)))) (fun y590 =>
BM (fun y591 =>
some (.inr (.inr (.inl (y591.1,y591.2.1,y591.2.2.1))))) (fun y592 =>
BM (fun y593 =>
some (.inr (.inr (.inr (.inl (y593.1,y593.2.1,y593.2.2.1,y593.2.2.2.1,y593.2.2.2.2.1,y593.2.2.2.2.2.1)))))) (fun y594 =>
some (.inr (.inr (.inr (.inr (y594.1,y594.2.1,y594.2.2.1)))))) y592) y590) y588) y586:Option YL)).bind fun y595 =>
BM (fun y596 =>
(vi k).bind fun y598 =>
((cond y598.2.2.2 (
cond (!z584.2.1) (
some true) (
cond (decide (z584.2.2.2.1 < y598.1)) (
some true) (
cond (y598.1 == z584.2.2.2.1) (
some (decide (z584.2.2.2.2.1<=y598.2.1))) (
some false)))) (
some false):Option Bool)).bind fun y599 =>
cond y599 (
some (a583.1,true,y598.1,y598.2.1,y598.2.2.1)) (
some (z584.1,z584.2.1,z584.2.2.2.1,z584.2.2.2.2.1,z584.2.2.2.2.2))) (fun y597 =>
BM (fun y600 =>
(gS k y600.1 y600.2).bind fun y602 =>
((cond y602.2.2.2 (
cond (!z584.2.1) (
some true) (
cond (decide (z584.2.2.2.1 < y602.1)) (
some true) (
cond (y602.1 == z584.2.2.2.1) (
some (decide (z584.2.2.2.2.1<=y602.2.1))) (
some false)))) (
some false):Option Bool)).bind fun y603 =>
cond y603 (
some (a583.1,true,y602.1,y602.2.1,y602.2.2.1)) (
some (z584.1,z584.2.1,z584.2.2.2.1,z584.2.2.2.2.1,z584.2.2.2.2.2))) (fun y601 =>
BM (fun y604 =>
(gF k y604.1 y604.2.1 y604.2.2).bind fun y606 =>
((cond y606.2.2.2 (
cond (!z584.2.1) (
some true) (
cond (decide (z584.2.2.2.1 < y606.1)) (
some true) (
cond (y606.1 == z584.2.2.2.1) (
some (decide (z584.2.2.2.2.1<=y606.2.1))) (
some false)))) (
some false):Option Bool)).bind fun y607 =>
cond y607 (
some (a583.1,true,y606.1,y606.2.1,y606.2.2.1)) (
some (z584.1,z584.2.1,z584.2.2.2.1,z584.2.2.2.2.1,z584.2.2.2.2.2))) (fun y605 =>
BM (fun y608 =>
(gp k y608.1 y608.2.1 y608.2.2.1 y608.2.2.2.1 y608.2.2.2.2.1 y608.2.2.2.2.2).bind fun y610 =>
((cond y610.2.2.2 (
cond (!z584.2.1) (
some true) (
cond (decide (z584.2.2.2.1 < y610.1)) (
some true) (
cond (y610.1 == z584.2.2.2.1) (
some (decide (z584.2.2.2.2.1<=y610.2.1))) (
some false)))) (
some false):Option Bool)).bind fun y611 =>
cond y611 (
some (a583.1,true,y610.1,y610.2.1,y610.2.2.1)) (
some (z584.1,z584.2.1,z584.2.2.2.1,z584.2.2.2.2.1,z584.2.2.2.2.2))) (fun y609 =>
(gf k y609.1 y609.2.1 y609.2.2).bind fun y612 =>
((cond y612.2.2.2 (
cond (!z584.2.1) (
some true) (
cond (decide (z584.2.2.2.1 < y612.1)) (
some true) (
cond (y612.1 == z584.2.2.2.1) (
some (decide (z584.2.2.2.2.1<=y612.2.1))) (
some false)))) (
some false):Option Bool)).bind fun y613 =>
cond y613 (
some (a583.1,true,y612.1,y612.2.1,y612.2.2.1)) (
some (z584.1,z584.2.1,z584.2.2.2.1,z584.2.2.2.2.1,z584.2.2.2.2.2))) y605) y601) y597) y595:Option (Int × Bool × Int × Int × Int))).bind fun y614 =>
some (.inl (y614.1,y614.2.1,(IntKind.wrap .i64 (z584.2.2.1+1)),y614.2.2.1,y614.2.2.2.1,y614.2.2.2.2))) (
some (.inr (z584.1,z584.2.1,z584.2.2.2.1,z584.2.2.2.2.1,z584.2.2.2.2.2)))
noncomputable def RT (k:Nat)(x4:(List BA))(z582:(Int × Bool × Int × Int × Int × Int)):Option ((Int × Bool × Int × Int × Int × Int) ⊕ (Int × Bool × Int × Int × Int)) :=
cond (decide (z582.2.2.1 < (x4.length:Int))) (
(ix x4 z582.2.2.1).bind fun a583 =>
(AB (Nx k a583) k (z582.1,z582.2.1,0,z582.2.2.2.1,z582.2.2.2.2.1,z582.2.2.2.2.2)).bind fun y615 =>
some (.inl (y615.1,y615.2.1,(IntKind.wrap .i64 (z582.2.2.1+1)),y615.2.2.1,y615.2.2.2.1,y615.2.2.2.2))) (
some (.inr (z582.1,z582.2.1,z582.2.2.2.1,z582.2.2.2.2.1,z582.2.2.2.2.2)))
noncomputable def lP (k:Nat)(x1:Int)(x2:Int)(x3:Int)(x4:(List BA)):Option (Int × Int × Int × Int × Bool) :=
(AB (RT k x4) k (0,false,0,0,0,0)).bind fun y616 =>
some (y616.2.2.1,y616.2.2.2.1,y616.2.2.2.2,y616.1,y616.2.1)
def A30:AQ:=⟨[.ag [.i .i64,.i .i64,.i .i64,.fz .u Cr]],[]⟩
def vX:List Al:=[.ti,.ti,.ti,.tl Cr]
def R30:List AP:=[⟨.tp [.ag [.i .u32,.i .u32,.i .u32],.i .i64,.b],[],[.ti,.ti,.ti,.ti,.tb]⟩]
def n30:An:=.sq (.nd) (.sq (.nd) (.sq (.nd) (.sq (.sq (.nd) (.lp [2,5,17,18] [2] ⟨[(6,.i .i64),(7,.b),(19,.i .i64)],[(5,.bx 78 [.i .u32,.i .u32,.i .u32])]⟩ [.ti,.tb,.ti,.ti,.ti,.ti] [(2,⟨[(6,.i .i64),(7,.b)],[(5,.bx 78 [.i .u32,.i .u32,.i .u32])]⟩)] [[.ti,.tb,.ti,.ti,.ti]] (.sq (.nd) (.sq (.nd) (.sq (.sq (.nd) (.sq (.nd) (.lp [9,19,24,25] [9] ⟨[(6,.i .i64),(7,.b),(26,.i .i64)],[(5,.bx 78 [.i .u32,.i .u32,.i .u32])]⟩ [.ti,.tb,.ti,.ti,.ti,.ti] [(4,⟨[(6,.i .i64),(7,.b)],[(5,.bx 78 [.i .u32,.i .u32,.i .u32])]⟩)] [[.ti,.tb,.ti,.ti,.ti]] (.sq (.nd) (.sq (.nd) (.jn [26] [] [(0,⟨[(6,.i .i64),(7,.b)],[(5,.bx 78 [.i .u32,.i .u32,.i .u32])]⟩)] [[.ti,.tb,.ti,.ti,.ti]] (.sq (.nd) (.jn [6,7] [5] [(0,⟨[(12,.c (.nilIface))],[]⟩),(0,⟨[(12,.Aw 197 (.ag [.i .u32,.i .u32]))],[]⟩),(0,⟨[(12,.Aw 199 (.ag [.i .u32,.i .u32,.s]))],[]⟩),(0,⟨[(12,.Aw 192 (.ag [.i .u32,.i .u32,.i .u32,.i .u32,.i .u32,.i .u32]))],[]⟩),(0,⟨[(12,.Aw 78 (.ag [.i .u32,.i .u32,.i .u32]))],[]⟩)] [[],[.ti,.ti],[.ti,.ti,.ts],[.ti,.ti,.ti,.ti,.ti,.ti],[.ti,.ti,.ti]] (.nd) (.sq (.nd) (.jn [6,7,14] [5,14] [(0,⟨[(65,.b)],[]⟩)] [[.tb]] (.nd) (.sq (.mk [] [0,0,2,1,15,31]) (.nd)))))) (.nd))))))) (.nd)))))) (.nd))))
theorem e30 (k:Nat)(y:Tup vX):EX Tryz.f30 A30 vX [] R30 n30 [pN k,C59 k,ny k,oQ k,nb k,nR k] k y=lP k y.1 y.2.1 y.2.2.1 y.2.2.2:=by kernel_rfl
noncomputable def uw (k:Nat):Au Tryz.prog:=CK 30 Tryz.func30 (e30 k)
noncomputable def cM (k:Nat){R:Type}(z11:((List (Int × Bool)) × ((List (Int × Bool)) × (List (Int × Bool)))))(Kin:((List (Int × Bool)) × ((List (Int × Bool)) × (List (Int × Bool))))->Option R)(Kout:((List (Int × Bool)) × (List (Int × Bool)))->Option R):Option R :=
cond z11.2.2.isEmpty (
Kout (z11.1,z11.2.1)) (
IY z11.2.2 fun j12=>fun a13 =>
Kin ((Be z11.1 a13.1 true),(z11.2.1,(List.eraseIdx z11.2.2 j12))))
noncomputable def Qo (k:Nat)(x5:(List (Int × Int)))(z23:(Int × (List (Int × Bool)))):Option ((Int × (List (Int × Bool))) ⊕ (List (Int × Bool))) :=
cond (decide (z23.1 < (x5.length:Int))) (
(ix x5 z23.1).bind fun a24 =>
some (.inl ((IntKind.wrap .i64 (z23.1+1)),(Be z23.2 a24.1 true)))) (
some (.inr z23.2))
noncomputable def lQ (k:Nat)(x1:Int)(x2:Int)(x3:Int)(x4:(List Ab))(x5:(List (Int × Int)))(x6:(List (Int × Bool))):Option ((List (Int × Bool)) × (List (Int × Bool))) :=
Ec (cM k) k (([]:List (Int × Bool)),(x6,x6)) fun y14 =>
(AB (Qo k x5) k (0,y14.1)).bind fun y25 =>
some (y14.2,y25)
def A33:AQ:=⟨[.mp 1000000,.ag [.i .u32,.i .u32,.i .u32,.fz .u CI,.fz .u Dr]],[(1000000,.mp ⟨(.i .i64),false,(.bool .nil)⟩)]⟩
def vH:List Al:=[.ti,.ti,.ti,.tl CI,.tl Dr,.tm ⟨(.i .i64),false,(.bool .nil)⟩]
def R33:List AP:=[⟨.mp 500000,[(1000000,.mp ⟨(.i .i64),false,(.bool .nil)⟩),(500000,.mp ⟨(.i .i64),false,(.bool .nil)⟩)],[.tm ⟨(.i .i64),false,(.bool .nil)⟩,.tm ⟨(.i .i64),false,(.bool .nil)⟩]⟩]
def n33:An:=.sq (.nd) (.sq (.nd) (.sq (.sq (.nd) (.lc [3,5,11] [3,11] ⟨[],[(9,.mp ⟨(.i .i64),false,(.bool .nil)⟩),(1000000,.mq ⟨(.i .i64),false,(.bool .nil)⟩ 11)]⟩ [.tm ⟨(.i .i64),false,(.bool .nil)⟩,.tq ⟨(.i .i64),false,(.bool .nil)⟩] [(2,⟨[],[(9,.mp ⟨(.i .i64),false,(.bool .nil)⟩),(1000000,.mp ⟨(.i .i64),false,(.bool .nil)⟩)]⟩)] [[.tm ⟨(.i .i64),false,(.bool .nil)⟩,.tm ⟨(.i .i64),false,(.bool .nil)⟩]] (.nd))) (.sq (.sq (.nd) (.lp [5,19,20] [1000000] ⟨[(21,.i .i64)],[(9,.mp ⟨(.i .i64),false,(.bool .nil)⟩)]⟩ [.ti,.tm ⟨(.i .i64),false,(.bool .nil)⟩] [(4,⟨[],[(9,.mp ⟨(.i .i64),false,(.bool .nil)⟩)]⟩)] [[.tm ⟨(.i .i64),false,(.bool .nil)⟩]] (.nd))) (.nd))))
theorem e33 (k:Nat)(y:Tup vH):EX Tryz.f33 A33 vH [] R33 n33 [] k y=lQ k y.1 y.2.1 y.2.2.1 y.2.2.2.1 y.2.2.2.2.1 y.2.2.2.2.2:=by kernel_rfl
noncomputable def tF (k:Nat):Au Tryz.prog:=CK 33 Tryz.func33 (e33 k)
noncomputable def pO (k:Nat)(x1:Int)(x2:Int)(x3:Int)(x4:(List Ab))(x5:(List (Int × Int)))(x6:Int)(x7:Int)(x8:Int)(x9:Int)(x10:(List (Int × Bool))):Option (Bool × (List (Int × Bool))) :=
cond (x1 == x6) (
(lQ k x1 x2 x3 x4 x5 x10).bind fun y1 =>
some ((decide ((y1.2.length:Int) < x9)),y1.1)) (
some (false,x10))
def A32:AQ:=⟨[.ag [.i .u32,.i .u32,.i .u32,.fz .u CI,.fz .u Dr],.pt 1000000 0,.pt 1000001 0,.pt 1000002 0],[(1000000,.bx 31 [.i .u32]),(1000001,.bx 81 [.mp 1000003]),(1000002,.bx 23 [.i .i64,.i .i64,.i .i64]),(1000003,.mp ⟨(.i .i64),false,(.bool .nil)⟩)]⟩
def vg:List Al:=[.ti,.ti,.ti,.tl CI,.tl Dr,.ti,.ti,.ti,.ti,.tm ⟨(.i .i64),false,(.bool .nil)⟩]
def R32:List AP:=[⟨.b,[(1000003,.mp ⟨(.i .i64),false,(.bool .nil)⟩)],[.tb,.tm ⟨(.i .i64),false,(.bool .nil)⟩]⟩]
def n32:An:=.sq (.nd) (.sq (.mk [] [0,1,3,0,15,31,63,63,255,511,63,1087,4095,8191,16383]) (.nd))
theorem e32 (k:Nat)(y:Tup vg):EX Tryz.f32 A32 vg [1000000,1000001,1000002] R32 n32 [tF k] k y=pO k y.1 y.2.1 y.2.2.1 y.2.2.2.1 y.2.2.2.2.1 y.2.2.2.2.2.1 y.2.2.2.2.2.2.1 y.2.2.2.2.2.2.2.1 y.2.2.2.2.2.2.2.2.1 y.2.2.2.2.2.2.2.2.2:=by kernel_rfl
noncomputable def C32 (k:Nat):Au Tryz.prog:=CK 32 Tryz.func32 (e32 k)
noncomputable def TW (k:Nat)(x1:(List Ct))(x2:Int)(x3:Int)(x4:Int)(x5:Int)(z34:(Int × (List (Int × Bool)))):Option ((Int × (List (Int × Bool))) ⊕ ((Int × Int × Int × (List Ab) × (List (Int × Int)) × (List (Int × Bool))) ⊕ (List (Int × Bool)))) :=
cond (decide (0<=z34.1)) (
(ix x1 z34.1).bind fun a35 =>
(x1[z34.1.toNat]?).bind fun a36 =>
(pO k a36.1 a36.2.1 a36.2.2.1 a36.2.2.2.1 a36.2.2.2.2 x2 x3 x4 x5 z34.2).bind fun y37 =>
cond y37.1 (
(ix x1 z34.1).bind fun a38 =>
(x1[z34.1.toNat]?).bind fun a39 =>
some (.inr (.inl (a39.1,a39.2.1,a39.2.2.1,a39.2.2.2.1,a39.2.2.2.2,y37.2)))) (
some (.inl ((IntKind.wrap .i64 (z34.1 - 1)),y37.2)))) (
some (.inr (.inr z34.2)))
noncomputable def mr (k:Nat)(x1:(List Ct))(x2:Int)(x3:Int)(x4:Int)(x5:Int)(x6:(List (Int × Bool))):Option (Int × Int × Int × (List Ab) × (List (Int × Int)) × Bool × (List (Int × Bool))) :=
(AB (TW k x1 x2 x3 x4 x5) k ((IntKind.wrap .i64 ((x1.length:Int) - 1)),x6)).bind fun y40 =>
BM (fun y41 =>
some (y41.1,y41.2.1,y41.2.2.1,y41.2.2.2.1,y41.2.2.2.2.1,true,y41.2.2.2.2.2)) (fun y42 =>
some (0,0,0,([]:List Ab),([]:List (Int × Int)),false,y42)) y40
def A31:AQ:=⟨[.sl .u 1000000,.fn 32 [.pt 1000001 0,.pt 1000002 0,.pt 1000003 0]],[(1000000,.ar 47 Cq),(1000001,.bx 31 [.i .u32]),(1000002,.bx 81 [.mp 1000004]),(1000003,.bx 23 [.i .i64,.i .i64,.i .i64]),(1000004,.mp ⟨(.i .i64),false,(.bool .nil)⟩)]⟩
def vO:List Al:=[.tl Cq,.ti,.ti,.ti,.ti,.tm ⟨(.i .i64),false,(.bool .nil)⟩]
def R31:List AP:=[⟨.tp [.ag [.i .u32,.i .u32,.i .u32,.fz .u CI,.fz .u Dr],.b],[(1000004,.mp ⟨(.i .i64),false,(.bool .nil)⟩)],[.ti,.ti,.ti,.tl CI,.tl Dr,.tb,.tm ⟨(.i .i64),false,(.bool .nil)⟩]⟩]
def n31:An:=.sq (.nd) (.sq (.sq (.nd) (.lp [0,1,4] [] ⟨[(6,.i .i64)],[(4,.bx 47 [.li .u32 0,.li .u32 0,.li .u32 0,.c (.slice none 0 0),.c (.slice none 0 0)]),(1000004,.mp ⟨(.i .i64),false,(.bool .nil)⟩)]⟩ [.ti,.tm ⟨(.i .i64),false,(.bool .nil)⟩] [(1,⟨[(5,.lb true)],[(4,.bx 47 [.i .u32,.i .u32,.i .u32,.fz .u CI,.fz .u Dr]),(1000004,.mp ⟨(.i .i64),false,(.bool .nil)⟩)]⟩),(2,⟨[],[(4,.bx 47 [.li .u32 0,.li .u32 0,.li .u32 0,.c (.slice none 0 0),.c (.slice none 0 0)]),(1000004,.mp ⟨(.i .i64),false,(.bool .nil)⟩)]⟩)] [[.ti,.ti,.ti,.tl CI,.tl Dr,.tm ⟨(.i .i64),false,(.bool .nil)⟩],[.tm ⟨(.i .i64),false,(.bool .nil)⟩]] (.nd))) (.nd))
theorem e31 (k:Nat)(y:Tup vO):EX Tryz.f31 A31 vO [1000000,1000001,1000002,1000003] R31 n31 [C32 k] k y=mr k y.1 y.2.1 y.2.2.1 y.2.2.2.1 y.2.2.2.2.1 y.2.2.2.2.2:=by kernel_rfl
noncomputable def wB (k:Nat):Au Tryz.prog:=CK 31 Tryz.func31 (e31 k)
noncomputable def oS (k:Nat)(z48:(Int × Int × (List Ct))):Option ((Int × Int × (List Ct)) ⊕ (List Ct)) :=
cond (decide (z48.1 < z48.2.1)) (
(ix z48.2.2 z48.2.1).bind fun a49 =>
(z48.2.2[z48.2.1.toNat]?).bind fun a50 =>
(ix z48.2.2 z48.1).bind fun a51 =>
(z48.2.2[z48.1.toNat]?).bind fun a52 =>
(ix z48.2.2 z48.1).bind fun a53 =>
((z48.2.2[z48.1.toNat]?).bind fun a54=>some (a50.1,a50.2.1,a50.2.2.1,a50.2.2.2.1,a50.2.2.2.2)).bind fun a55 =>
(ix (z48.2.2.set z48.1.toNat a55) z48.2.1).bind fun a56 =>
(((z48.2.2.set z48.1.toNat a55)[z48.2.1.toNat]?).bind fun a57=>some (a52.1,a52.2.1,a52.2.2.1,a52.2.2.2.1,a52.2.2.2.2)).bind fun a58 =>
some (.inl ((IntKind.wrap .i64 (z48.1+1)),(IntKind.wrap .i64 (z48.2.1 - 1)),((z48.2.2.set z48.1.toNat a55).set z48.2.1.toNat a58)))) (
some (.inr z48.2.2))
noncomputable def lU (k:Nat)(x1:(List Ct)):Option (List Ct) :=
(AB (oS k) k (0,(IntKind.wrap .i64 ((x1.length:Int) - 1)),x1)).bind fun y59 =>
some y59
def A34:AQ:=⟨[.sl .u 1000000],[(1000000,.ar 47 Cq)]⟩
def ud:List Al:=[.tl Cq]
def R34:List AP:=[⟨.tp [],[(1000000,.ar 47 Cq)],[.tl Cq]⟩]
def n34:An:=.sq (.nd) (.lp [0] [] ⟨[(2,.i .i64),(3,.i .i64)],[(1000000,.ar 47 Cq)]⟩ [.ti,.ti,.tl Cq] [(2,⟨[],[(1000000,.ar 47 Cq)]⟩)] [[.tl Cq]] (.sq (.nd) (.sq (.mk [] [0,0,0,0,0,0,48,112,0,0,768,1792,4083,8179,16383,32767]) (.nd))))
theorem e34 (k:Nat)(y:Tup ud):EX Tryz.f34 A34 ud [] R34 n34 [] k y=lU k y:=by kernel_rfl
noncomputable def uv (k:Nat):Au Tryz.prog:=CK 34 Tryz.func34 (e34 k)
noncomputable def lW (k:Nat)(x1:(List Int)):Option (List Int) :=
Xm x1
def A35:AQ:=⟨[.sl .u 1000000],[(1000000,.ar 3 Br)]⟩
def h35:List Al:=[.tl Br]
def R35:List AP:=[⟨.tp [],[(1000000,.ar 3 Br)],[.tl Br]⟩]
noncomputable def vk (k:Nat):Au Tryz.prog:=⟨35,Tryz.f35,Tryz.func35,by kernel_rfl,by kernel_rfl,A35,h35,[],R35,fun y=>lW k y,fun y r h=>by
 have h2:Xm y=some r:=h
 exact OY.sortInt (ρ:=Tryz.lays189_ren) Tryz.lays189 3 (by decide) h2⟩
noncomputable def oc (k:Nat)(x1:Int)(x2:Int):Option Int :=
some 1
def sJ:AQ:=⟨[.ag [.i .u32,.i .u32]],[]⟩
def nq:List Al:=[.ti,.ti]
def tB:List AP:=[⟨.i .i64,[],[.ti]⟩]
def n219:An:=.nd
theorem uB (k:Nat)(y:Tup nq):EX Tryz.f219 sJ nq [] tB n219 [] k y=oc k y.1 y.2:=by kernel_rfl
noncomputable def qe (k:Nat):Au Tryz.prog:=CK 219 Tryz.func219 (uB k)
noncomputable def nB (k:Nat)(x1:Int)(x2:Int)(x3:ByteArray):Option Int :=
some 2
def rz:AQ:=⟨[.ag [.i .u32,.i .u32,.s]],[]⟩
def oz:List Al:=[.ti,.ti,.ts]
def qo:List AP:=[⟨.i .i64,[],[.ti]⟩]
def n220:An:=.nd
theorem rX (k:Nat)(y:Tup oz):EX Tryz.f220 rz oz [] qo n220 [] k y=nB k y.1 y.2.1 y.2.2:=by kernel_rfl
noncomputable def sD (k:Nat):Au Tryz.prog:=CK 220 Tryz.func220 (rX k)
noncomputable def nG (k:Nat)(x1:Int)(x2:Int)(x3:Int)(x4:Int)(x5:Int)(x6:Int):Option Int :=
some 3
def qA:AQ:=⟨[.ag [.i .u32,.i .u32,.i .u32,.i .u32,.i .u32,.i .u32]],[]⟩
def mL:List Al:=[.ti,.ti,.ti,.ti,.ti,.ti]
def sP:List AP:=[⟨.i .i64,[],[.ti]⟩]
def n218:An:=.nd
theorem uF (k:Nat)(y:Tup mL):EX Tryz.f218 qA mL [] sP n218 [] k y=nG k y.1 y.2.1 y.2.2.1 y.2.2.2.1 y.2.2.2.2.1 y.2.2.2.2.2:=by kernel_rfl
noncomputable def sT (k:Nat):Au Tryz.prog:=CK 218 Tryz.func218 (uF k)
noncomputable def nT (k:Nat)(x1:Int)(x2:Int)(x3:Int):Option Int :=
some 4
def qX:AQ:=⟨[.ag [.i .u32,.i .u32,.i .u32]],[]⟩
def og:List Al:=[.ti,.ti,.ti]
def sC:List AP:=[⟨.i .i64,[],[.ti]⟩]
def n217:An:=.nd
theorem sS (k:Nat)(y:Tup og):EX Tryz.f217 qX og [] sC n217 [] k y=nT k y.1 y.2.1 y.2.2:=by kernel_rfl
noncomputable def tD (k:Nat):Au Tryz.prog:=CK 217 Tryz.func217 (sS k)
noncomputable def NH (k:Nat)(a601:BA)(x6:(List (Int × Bool)))(z602:(Int × Int)):Option ((Int × Int) ⊕ Int) :=
cond (decide (z602.2 < (a601.2.2.1.length:Int))) (
(((ix a601.2.2.1 z602.2).bind fun a603 =>
(((gI k a603.1 a603.2.1 a603.2.2.1 a603.2.2.2).bind fun y604 =>
BM (fun y605 =>
some (.inl ())) (fun y606 =>
BM (fun y607 =>
some (.inr (.inl (y607.1,y607.2.1)))) (fun y608 =>
BM (fun y609 =>
some (.inr (.inr (.inl (y609.1,y609.2.1,y609.2.2.1))))) (fun y610 =>
BM (fun y611 =>
some (.inr (.inr (.inr (.inl (y611.1,y611.2.1,y611.2.2.1,y611.2.2.2.1,y611.2.2.2.2.1,y611.2.2.2.2.2.1)))))) (fun y612 =>
some (.inr (.inr (.inr (.inr (y612.1,y612.2.1,y612.2.2.1)))))) y610) y608) y606) y604:Option YL)).bind fun y613 =>
BM (fun y614 =>
(((some ((Ai Da x6 a601.1).getD false,(Ai Da x6 a601.1).isSome)).bind fun a616 =>
cond a616.1 (
some ()) (
some ()):Option Unit)).bind fun y617 =>
some z602.1) (fun y615 =>
BM (fun y618 =>
(((some ((Ai Da x6 a601.1).getD false,(Ai Da x6 a601.1).isSome)).bind fun a620 =>
cond a620.1 (
(oc k y618.1 y618.2).bind fun y621 =>
some (y621 != 1)) (
some false):Option Bool)).bind fun y622 =>
cond y622 (
some (mx z602.1 a603.2.1)) (
some z602.1)) (fun y619 =>
BM (fun y623 =>
(((some ((Ai Da x6 a601.1).getD false,(Ai Da x6 a601.1).isSome)).bind fun a625 =>
cond a625.1 (
(nB k y623.1 y623.2.1 y623.2.2).bind fun y626 =>
some (y626 != 1)) (
some false):Option Bool)).bind fun y627 =>
cond y627 (
some (mx z602.1 a603.2.1)) (
some z602.1)) (fun y624 =>
BM (fun y628 =>
(((some ((Ai Da x6 a601.1).getD false,(Ai Da x6 a601.1).isSome)).bind fun a630 =>
cond a630.1 (
(nG k y628.1 y628.2.1 y628.2.2.1 y628.2.2.2.1 y628.2.2.2.2.1 y628.2.2.2.2.2).bind fun y631 =>
some (y631 != 1)) (
some false):Option Bool)).bind fun y632 =>
cond y632 (
some (mx z602.1 a603.2.1)) (
some z602.1)) (fun y629 =>
(((some ((Ai Da x6 a601.1).getD false,(Ai Da x6 a601.1).isSome)).bind fun a633 =>
cond a633.1 (
(nT k y629.1 y629.2.1 y629.2.2).bind fun y634 =>
some (y634 != 1)) (
some false):Option Bool)).bind fun y635 =>
cond y635 (
some (mx z602.1 a603.2.1)) (
some z602.1)) y624) y619) y615) y613:Option Int)).bind fun y636 =>
some (.inl (y636,(IntKind.wrap .i64 (z602.2+1))))) (
some (.inr z602.1))
noncomputable def XU (k:Nat)(x4:(List BA))(x6:(List (Int × Bool)))(z600:(Int × Int)):Option ((Int × Int) ⊕ Int) :=
cond (decide (z600.2 < (x4.length:Int))) (
(ix x4 z600.2).bind fun a601 =>
(AB (NH k a601 x6) k (z600.1,0)).bind fun y637 =>
some (.inl (y637,(IntKind.wrap .i64 (z600.2+1))))) (
some (.inr z600.1))
noncomputable def lI (k:Nat)(x1:Int)(x2:Int)(x3:Int)(x4:(List BA))(x5:Int)(x6:(List (Int × Bool))):Option Int :=
(AB (XU k x4 x6) k (x5,0)).bind fun y638 =>
some (IntKind.wrap .u32 (y638+1))
def A36:AQ:=⟨[.ag [.i .i64,.i .i64,.i .i64,.fz .u Cr],.mp 1000000,.i .u32],[(1000000,.mp ⟨(.i .i64),false,(.bool .nil)⟩)]⟩
def wG:List Al:=[.ti,.ti,.ti,.tl Cr,.ti,.tm ⟨(.i .i64),false,(.bool .nil)⟩]
def R36:List AP:=[⟨.i .u32,[],[.ti]⟩]
def n36:An:=.sq (.nd) (.sq (.sq (.nd) (.lp [1,14,15] [] ⟨[(2,.i .u32),(16,.i .i64)],[]⟩ [.ti,.ti] [(2,⟨[(2,.i .u32)],[]⟩)] [[.ti]] (.sq (.nd) (.sq (.nd) (.sq (.sq (.nd) (.sq (.nd) (.lp [8,16,21,22] [8] ⟨[(2,.i .u32),(23,.i .i64)],[]⟩ [.ti,.ti] [(4,⟨[(2,.i .u32)],[]⟩)] [[.ti]] (.sq (.nd) (.sq (.nd) (.jn [23] [] [(0,⟨[(2,.i .u32)],[]⟩)] [[.ti]] (.sq (.nd) (.jn [2,10] [10] [(0,⟨[(11,.c (.nilIface))],[]⟩),(0,⟨[(11,.Aw 197 (.ag [.i .u32,.i .u32]))],[]⟩),(0,⟨[(11,.Aw 199 (.ag [.i .u32,.i .u32,.s]))],[]⟩),(0,⟨[(11,.Aw 192 (.ag [.i .u32,.i .u32,.i .u32,.i .u32,.i .u32,.i .u32]))],[]⟩),(0,⟨[(11,.Aw 78 (.ag [.i .u32,.i .u32,.i .u32]))],[]⟩)] [[],[.ti,.ti],[.ti,.ti,.ts],[.ti,.ti,.ti,.ti,.ti,.ti],[.ti,.ti,.ti]] (.nd) (.al 11 (.jn [2,10] [10] [(0,⟨[(44,.lb false)],[]⟩)] [[]] (.nd) (.nd)) (.jn [2,10] [10] [(0,⟨[(44,.b)],[]⟩)] [[.tb]] (.nd) (.nd))))) (.nd))))))) (.nd)))))) (.nd))
theorem e36 (k:Nat)(y:Tup wG):EX Tryz.f36 A36 wG [1000000] R36 n36 [pN k,qe k,sD k,sT k,tD k] k y=lI k y.1 y.2.1 y.2.2.1 y.2.2.2.1 y.2.2.2.2.1 y.2.2.2.2.2:=by kernel_rfl
noncomputable def vQ (k:Nat):Au Tryz.prog:=CK 36 Tryz.func36 (e36 k)
noncomputable def OW (k:Nat)(y4:(List Ct))(z20:(Int × Int)):Option ((Int × Int) ⊕ Int) :=
cond (decide (z20.2 < (y4.length:Int))) (
(ix y4 z20.2).bind fun a21 =>
(y4[z20.2.toNat]?).bind fun a22 =>
some (.inl ((mx z20.1 a22.1),(IntKind.wrap .i64 (z20.2+1))))) (
some (.inr z20.1))
noncomputable def Ju (k:Nat)(x1:Int)(x2:Int)(x3:Int)(y4:(List Ct))(z46:(Int × Int × Int × Int × (List Ct) × (List (Int × Bool)))):Option ((Int × Int × Int × Int × (List Ct) × (List (Int × Bool))) ⊕ (Int × Int × Int × (List Ct) × (List (Int × Bool)))) :=
cond (decide (z46.1 < z46.2.2.2.1)) (
(mr k y4 z46.2.2.2.1 x1 x2 x3 z46.2.2.2.2.2).bind fun y47 =>
cond (!y47.2.2.2.2.2.1) (
some (.inr (z46.2.2.2.1,(mx z46.2.1 z46.2.2.2.1),z46.2.2.1,z46.2.2.2.2.1,y47.2.2.2.2.2.2))) (
Ao (decide ((z46.2.2.2.2.1.length+[(y47.1,y47.2.1,y47.2.2.1,y47.2.2.2.1,y47.2.2.2.2.1)].length) * 64<=140737488355328)) <|
(lQ k y47.1 y47.2.1 y47.2.2.1 y47.2.2.2.1 y47.2.2.2.2.1 y47.2.2.2.2.2.2).bind fun y48 =>
some (.inl (z46.1,z46.2.1,z46.2.2.1,y47.2.1,(z46.2.2.2.2.1 ++ [(y47.1,y47.2.1,y47.2.2.1,y47.2.2.2.1,y47.2.2.2.2.1)]),y48.2)))) (
some (.inr (z46.1,z46.2.1,z46.2.2.1,z46.2.2.2.2.1,z46.2.2.2.2.2)))
noncomputable def MX (k:Nat){R:Type}(z64:(Int × Int × Int × ((List (Int × Bool)) × (List (Int × Bool))) × (List Int)))(Kin:(Int × Int × Int × ((List (Int × Bool)) × (List (Int × Bool))) × (List Int))->Option R)(Kout:(Int × Int × Int × (List (Int × Bool)) × (List Int))->Option R):Option R :=
cond z64.2.2.2.1.2.isEmpty (
Kout (z64.1,z64.2.1,z64.2.2.1,z64.2.2.2.1.1,z64.2.2.2.2)) (
IY z64.2.2.2.1.2 fun j65=>fun a66 =>
Ao (decide ((z64.2.2.2.2.length+[a66.1].length) * 8<=140737488355328)) <|
Kin (z64.1,z64.2.1,z64.2.2.1,(z64.2.2.2.1.1,(List.eraseIdx z64.2.2.2.1.2 j65)),(z64.2.2.2.2 ++ [a66.1])))
noncomputable def mE (k:Nat)(x1:Int)(x2:Int)(x3:Int)(x4:(List BA)):Option (Int × Int × Int × (List Ct) × (List Int) × Int × Int) :=
(pV k x1 x2 x3 x4).bind fun y2 =>
(lT k y2.1 y2.2.1 y2.2.2.1 y2.2.2.2).bind fun y4 =>
(lP k y2.1 y2.2.1 y2.2.2.1 y2.2.2.2).bind fun y6 =>
((cond y6.2.2.2.2 (
some (Be ([]:List (Int × Bool)) y6.2.2.2.1 true)) (
some ([]:List (Int × Bool))):Option (List (Int × Bool)))).bind fun y7 =>
(AB (OW k y4) k (0,0)).bind fun y23 =>
(AB (Ju k x1 x2 x3 y4) k (y6.1,y6.2.2.1,y6.2.1,y23,([]:List Ct),y7)).bind fun y49 =>
(lU k y49.2.2.2.1).bind fun y51 =>
Ec (MX k) k (y49.1,y49.2.1,y49.2.2.1,(y49.2.2.2.2,y49.2.2.2.2),([]:List Int)) fun y67 =>
(lW k y67.2.2.2.2).bind fun y69 =>
((cond (decide (0 < (y51.length:Int))) (
(ix y51 (IntKind.wrap .i64 ((y51.length:Int) - 1))).bind fun a72 =>
(y51[(IntKind.wrap .i64 ((y51.length:Int) - 1)).toNat]?).bind fun a73 =>
some (y67.1,y67.2.1,y67.2.2.1,(mx y67.1 a73.1))) (
some (y67.1,y67.2.1,y67.2.2.1,y67.1)):Option (Int × Int × Int × Int))).bind fun y74 =>
(lI k y2.1 y2.2.1 y2.2.2.1 y2.2.2.2 y74.2.2.2 y67.2.2.2.1).bind fun y76 =>
some (y74.1,y74.2.1,y74.2.2.1,y51,y69,y74.2.2.2,y76)
def A13:AQ:=⟨[.ag [.i .i64,.i .i64,.i .i64],.fz .u Cr],[]⟩
def uf:List Al:=[.ti,.ti,.ti,.tl Cr]
def R13:List AP:=[⟨.ag [.i .u32,.i .u32,.i .u32,.fz .u Cq,.fz .u Br,.i .u32,.i .u32],[],[.ti,.ti,.ti,.tl Cq,.tl Br,.ti,.ti]⟩]
def n13:An:=.sq (.nd) (.sq (.nd) (.sq (.nd) (.sq (.nd) (.sq (.nd) (.sq (.nd) (.jn [2,4,5,6,10,11] [2,4,5,10,11,402400] [(0,⟨[],[(38,.mp ⟨(.i .i64),false,(.bool .nil)⟩)]⟩)] [[.tm ⟨(.i .i64),false,(.bool .nil)⟩]] (.nd) (.sq (.nd) (.sq (.sq (.nd) (.lp [2,4,5,6,10,11,42,43] [2,4,5,10,11,38,402400] ⟨[(12,.i .u32),(44,.i .i64)],[]⟩ [.ti,.ti] [(2,⟨[(12,.i .u32)],[]⟩)] [[.ti]] (.nd))) (.sq (.sq (.nd) (.lp [2,4,5,6,10,11] [2,4,5,402400] ⟨[(15,.pt 302050 0)],[(10,.bx 35 [.i .u32,.i .u32,.i .u32,.sl .n 302051,.c (.slice none 0 0),.li .u32 0,.li .u32 0]),(11,.bx 81 [.mp 302052]),(302050,.bx 31 [.i .u32]),(302051,.ar 47 Cq),(302052,.mp ⟨(.i .i64),false,(.bool .nil)⟩)]⟩ [.ti,.ti,.ti,.ti,.tl Cq,.tm ⟨(.i .i64),false,(.bool .nil)⟩] [(4,⟨[],[(10,.bx 35 [.i .u32,.i .u32,.i .u32,.sl .n 302075,.c (.slice none 0 0),.li .u32 0,.li .u32 0]),(11,.bx 81 [.mp 302076]),(302075,.ar 47 Cq),(302076,.mp ⟨(.i .i64),false,(.bool .nil)⟩)]⟩)] [[.ti,.ti,.ti,.tl Cq,.tm ⟨(.i .i64),false,(.bool .nil)⟩]] (.sq (.nd) (.sq (.sq (.nd) (.sq (.sq (.nd) (.sq (.sq (.mk [] [0,0,2,0,14,7,39,127,255]) (.nd)) (.nd))) (.nd))) (.nd))))) (.sq (.nd) (.sq (.sq (.nd) (.lc [4,5,10,11,91] [4,5,11,91,302075] ⟨[],[(10,.bx 35 [.i .u32,.i .u32,.i .u32,.sl .n 302075,.sl .n 303700,.li .u32 0,.li .u32 0]),(302076,.mq ⟨(.i .i64),false,(.bool .nil)⟩ 91),(303700,.ar 3 Br)]⟩ [.ti,.ti,.ti,.tq ⟨(.i .i64),false,(.bool .nil)⟩,.tl Br] [(6,⟨[],[(10,.bx 35 [.i .u32,.i .u32,.i .u32,.sl .n 302075,.sl .n 303725,.li .u32 0,.li .u32 0]),(302076,.mp ⟨(.i .i64),false,(.bool .nil)⟩),(303725,.ar 3 Br)]⟩)] [[.ti,.ti,.ti,.tm ⟨(.i .i64),false,(.bool .nil)⟩,.tl Br]] (.nd))) (.sq (.nd) (.sq (.nd) (.jn [4,5,10,11] [4,5,11,302075,302076,303725] [(0,⟨[],[(10,.bx 35 [.i .u32,.i .u32,.i .u32,.sl .n 302075,.sl .n 303725,.i .u32,.li .u32 0])]⟩)] [[.ti,.ti,.ti,.ti]] (.sq (.nd) (.sq (.nd) (.sq (.mk [] [0,1,0,4,0,16,60,124,252,508,1023,2047,4095]) (.nd)))) (.nd)))))))))))))))
theorem e13 (k:Nat)(hm:Mo.m=false)(y:Tup uf):EX Tryz.f13 A13 uf [] R13 n13 [C28 k,um k hm,uw k,wB k,tF k,uv k,vk k,vQ k] k y=mE k y.1 y.2.1 y.2.2.1 y.2.2.2:=by kernel_rfl
noncomputable def vj (k:Nat)(hm:Mo.m=false):Au Tryz.prog:=CK 13 Tryz.func13 (e13 k hm)
noncomputable def lq (k:Nat):Option Bool :=
(mE k 32 3 4 ([]:List BA)).bind fun y2 =>
cond (y2.2.2.2.2.2.2 == 1) (
cond (y2.2.2.2.2.2.1 == 0) (
cond (y2.1 == 0) (
cond ((y2.2.2.2.1.length:Int) == 0) (
some ((y2.2.2.2.2.1.length:Int) == 0)) (
some false)) (
some false)) (
some false)) (
some false)
def A11:AQ:=⟨[],[]⟩
def vz:List Al:=[]
def R11:List AP:=[⟨.b,[],[.tb]⟩]
def n11:An:=.nd
theorem e11 (k:Nat)(hm:Mo.m=false)(y:Tup vz):EX Tryz.f11 A11 vz [] R11 n11 [vj k hm] k y=lq k:=by kernel_rfl
noncomputable def wE (k:Nat)(hm:Mo.m=false):Au Tryz.prog:=CK 11 Tryz.func11 (e11 k hm)
noncomputable def Ly (k:Nat)(x4:(List BA))(z30:(Int × (List (Int × BA)))):Option ((Int × (List (Int × BA))) ⊕ (List (Int × BA))) :=
cond (decide (z30.1 < (x4.length:Int))) (
(((ix x4 z30.1).bind fun a31 =>
(x4[z30.1.toNat]?).bind fun a32 =>
(some ((Ai Da z30.2 a32.2.1).getD (0,0,([]:List BZ),false),(Ai Da z30.2 a32.2.1).isSome)).bind fun a33 =>
((cond (a32.2.1 != 0) (
cond (!a33.2) (
some true) (
some (decide (a33.1.1<=a32.1)))) (
some false):Option Bool)).bind fun y34 =>
cond y34 (
some (Be z30.2 a32.2.1 (a32.1,a32.2.1,a32.2.2.1,a32.2.2.2))) (
some z30.2):Option (List (Int × BA)))).bind fun y35 =>
some (.inl ((IntKind.wrap .i64 (z30.1+1)),y35))) (
some (.inr z30.2))
noncomputable def TK (k:Nat){R:Type}(z47:(((List (Int × BA)) × (List (Int × BA))) × (List BA)))(Kin:(((List (Int × BA)) × (List (Int × BA))) × (List BA))->Option R)(Kout:((List (Int × BA)) × (List BA))->Option R):Option R :=
cond z47.1.2.isEmpty (
Kout (z47.1.1,z47.2)) (
IY z47.1.2 fun j48=>fun a49 =>
Ao (decide ((z47.2.length+[(a49.2.1,a49.2.2.1,a49.2.2.2.1,a49.2.2.2.2)].length) * 48<=140737488355328)) <|
Kin ((z47.1.1,(List.eraseIdx z47.1.2 j48)),(z47.2 ++ [(a49.2.1,a49.2.2.1,a49.2.2.2.1,a49.2.2.2.2)])))
noncomputable def Xs (k:Nat)(x1:Int)(x2:Int)(x3:Int)(x4:(List BA)):Option (Int × Int × Int × (List BA)) :=
(AB (Ly k x4) k (0,([]:List (Int × BA)))).bind fun y36 =>
Ec (TK k) k ((y36,y36),([]:List BA)) fun y50 =>
(nj k y50.2).bind fun y52 =>
some (x1,x2,x3,y52)
def mT:AQ:=⟨[.ag [.i .i64,.i .i64,.i .i64],.sl .u 1000000],[(1000000,.ar 52 Cr)]⟩
def gM:List Al:=[.ti,.ti,.ti,.tl Cr]
def mZ:List AP:=[⟨.ag [.i .i64,.i .i64,.i .i64,.fz .u Cr],[],[.ti,.ti,.ti,.tl Cr]⟩]
def nw:An:=.sq (.nd) (.sq (.nd) (.sq (.sq (.nd) (.lp [2,4,5,14,15] [2,4] ⟨[(16,.i .i64)],[(13,.mp ⟨(.i .u32),true,Cr⟩)]⟩ [.ti,.tm ⟨(.i .u32),true,Cr⟩] [(2,⟨[],[(13,.mp ⟨(.i .u32),true,Cr⟩)]⟩)] [[.tm ⟨(.i .u32),true,Cr⟩]] (.sq (.nd) (.sq (.nd) (.jn [16] [] [(0,⟨[],[(13,.mp ⟨(.i .u32),true,Cr⟩)]⟩)] [[.tm ⟨(.i .u32),true,Cr⟩]] (.sq (.nd) (.sq (.nd) (.jn [7] [7,13] [(0,⟨[(40,.b)],[]⟩)] [[.tb]] (.nd) (.nd)))) (.nd)))))) (.sq (.nd) (.sq (.sq (.nd) (.lc [2,4,47] [2,4,47] ⟨[(10,.sl .n 301650)],[(13,.mq ⟨(.i .u32),true,Cr⟩ 47),(301650,.ar 52 Cr)]⟩ [.tq ⟨(.i .u32),true,Cr⟩,.tl Cr] [(4,⟨[(10,.sl .n 301675)],[(13,.mp ⟨(.i .u32),true,Cr⟩),(301675,.ar 52 Cr)]⟩)] [[.tm ⟨(.i .u32),true,Cr⟩,.tl Cr]] (.nd))) (.nd)))))
theorem oH (k:Nat)(y:Tup gM):EX Tryz.f28 mT gM [1000000] mZ nw [vu k] k y=Xs k y.1 y.2.1 y.2.2.1 y.2.2.2:=by kernel_rfl
noncomputable def mW (k:Nat):Au Tryz.prog:=CK 28 Tryz.func28 (oH k)
noncomputable def ca (k:Nat)(y4:(List Ct))(z20:(Int × Int)):Option ((Int × Int) ⊕ Int) :=
cond (decide (z20.2 < (y4.length:Int))) (
(ix y4 z20.2).bind fun a21 =>
(y4[z20.2.toNat]?).bind fun a22 =>
some (.inl ((mx z20.1 a22.1),(IntKind.wrap .i64 (z20.2+1))))) (
some (.inr z20.1))
noncomputable def bT (k:Nat)(x1:Int)(x2:Int)(x3:Int)(y4:(List Ct))(z46:(Int × Int × Int × Int × (List Ct) × (List (Int × Bool)))):Option ((Int × Int × Int × Int × (List Ct) × (List (Int × Bool))) ⊕ (Int × Int × Int × (List Ct) × (List (Int × Bool)))) :=
cond (decide (z46.1 < z46.2.2.2.1)) (
(mr k y4 z46.2.2.2.1 x1 x2 x3 z46.2.2.2.2.2).bind fun y47 =>
cond (!y47.2.2.2.2.2.1) (
some (.inr (z46.2.2.2.1,(mx z46.2.1 z46.2.2.2.1),z46.2.2.1,z46.2.2.2.2.1,y47.2.2.2.2.2.2))) (
Ao (decide ((z46.2.2.2.2.1.length+[(y47.1,y47.2.1,y47.2.2.1,y47.2.2.2.1,y47.2.2.2.2.1)].length) * 64<=140737488355328)) <|
(lQ k y47.1 y47.2.1 y47.2.2.1 y47.2.2.2.1 y47.2.2.2.2.1 y47.2.2.2.2.2.2).bind fun y48 =>
some (.inl (z46.1,z46.2.1,z46.2.2.1,y47.2.1,(z46.2.2.2.2.1 ++ [(y47.1,y47.2.1,y47.2.2.1,y47.2.2.2.1,y47.2.2.2.2.1)]),y48.2)))) (
some (.inr (z46.1,z46.2.1,z46.2.2.1,z46.2.2.2.2.1,z46.2.2.2.2.2)))
noncomputable def cj (k:Nat){R:Type}(z64:(Int × Int × Int × ((List (Int × Bool)) × (List (Int × Bool))) × (List Int)))(Kin:(Int × Int × Int × ((List (Int × Bool)) × (List (Int × Bool))) × (List Int))->Option R)(Kout:(Int × Int × Int × (List (Int × Bool)) × (List Int))->Option R):Option R :=
cond z64.2.2.2.1.2.isEmpty (
Kout (z64.1,z64.2.1,z64.2.2.1,z64.2.2.2.1.1,z64.2.2.2.2)) (
IY z64.2.2.2.1.2 fun j65=>fun a66 =>
Ao (decide ((z64.2.2.2.2.length+[a66.1].length) * 8<=140737488355328)) <|
Kin (z64.1,z64.2.1,z64.2.2.1,(z64.2.2.2.1.1,(List.eraseIdx z64.2.2.2.1.2 j65)),(z64.2.2.2.2 ++ [a66.1])))
noncomputable def Wz (k:Nat)(x1:Int)(x2:Int)(x3:Int)(x4:(List BA)):Option (Int × Int × Int × (List Ct) × (List Int) × Int × Int) :=
(Xs k x1 x2 x3 x4).bind fun y2 =>
(lT k y2.1 y2.2.1 y2.2.2.1 y2.2.2.2).bind fun y4 =>
(lP k y2.1 y2.2.1 y2.2.2.1 y2.2.2.2).bind fun y6 =>
((cond y6.2.2.2.2 (
some (Be ([]:List (Int × Bool)) y6.2.2.2.1 true)) (
some ([]:List (Int × Bool))):Option (List (Int × Bool)))).bind fun y7 =>
(AB (ca k y4) k (0,0)).bind fun y23 =>
(AB (bT k x1 x2 x3 y4) k (y6.1,y6.2.2.1,y6.2.1,y23,([]:List Ct),y7)).bind fun y49 =>
(lU k y49.2.2.2.1).bind fun y51 =>
Ec (cj k) k (y49.1,y49.2.1,y49.2.2.1,(y49.2.2.2.2,y49.2.2.2.2),([]:List Int)) fun y67 =>
(lW k y67.2.2.2.2).bind fun y69 =>
((cond (decide (0 < (y51.length:Int))) (
(ix y51 (IntKind.wrap .i64 ((y51.length:Int) - 1))).bind fun a72 =>
(y51[(IntKind.wrap .i64 ((y51.length:Int) - 1)).toNat]?).bind fun a73 =>
some (y67.1,y67.2.1,y67.2.2.1,(mx y67.1 a73.1))) (
some (y67.1,y67.2.1,y67.2.2.1,y67.1)):Option (Int × Int × Int × Int))).bind fun y74 =>
(lI k y2.1 y2.2.1 y2.2.2.1 y2.2.2.2 y74.2.2.2 y67.2.2.2.1).bind fun y76 =>
some (y74.1,y74.2.1,y74.2.2.1,y51,y69,y74.2.2.2,y76)
def nY:AQ:=⟨[.ag [.i .i64,.i .i64,.i .i64],.sl .u 1000000],[(1000000,.ar 52 Cr)]⟩
def gJ:List Al:=[.ti,.ti,.ti,.tl Cr]
def lz:List AP:=[⟨.ag [.i .u32,.i .u32,.i .u32,.fz .u Cq,.fz .u Br,.i .u32,.i .u32],[],[.ti,.ti,.ti,.tl Cq,.tl Br,.ti,.ti]⟩]
def oL:An:=.sq (.nd) (.sq (.nd) (.sq (.nd) (.sq (.nd) (.sq (.nd) (.sq (.nd) (.jn [2,4,5,6,10,11] [2,4,5,10,11,402400] [(0,⟨[],[(38,.mp ⟨(.i .i64),false,(.bool .nil)⟩)]⟩)] [[.tm ⟨(.i .i64),false,(.bool .nil)⟩]] (.nd) (.sq (.nd) (.sq (.sq (.nd) (.lp [2,4,5,6,10,11,42,43] [2,4,5,10,11,38,402400] ⟨[(12,.i .u32),(44,.i .i64)],[]⟩ [.ti,.ti] [(2,⟨[(12,.i .u32)],[]⟩)] [[.ti]] (.nd))) (.sq (.sq (.nd) (.lp [2,4,5,6,10,11] [2,4,5,402400] ⟨[(15,.pt 302050 0)],[(10,.bx 35 [.i .u32,.i .u32,.i .u32,.sl .n 302051,.c (.slice none 0 0),.li .u32 0,.li .u32 0]),(11,.bx 81 [.mp 302052]),(302050,.bx 31 [.i .u32]),(302051,.ar 47 Cq),(302052,.mp ⟨(.i .i64),false,(.bool .nil)⟩)]⟩ [.ti,.ti,.ti,.ti,.tl Cq,.tm ⟨(.i .i64),false,(.bool .nil)⟩] [(4,⟨[],[(10,.bx 35 [.i .u32,.i .u32,.i .u32,.sl .n 302075,.c (.slice none 0 0),.li .u32 0,.li .u32 0]),(11,.bx 81 [.mp 302076]),(302075,.ar 47 Cq),(302076,.mp ⟨(.i .i64),false,(.bool .nil)⟩)]⟩)] [[.ti,.ti,.ti,.tl Cq,.tm ⟨(.i .i64),false,(.bool .nil)⟩]] (.sq (.nd) (.sq (.sq (.nd) (.sq (.sq (.nd) (.sq (.sq (.mk [] [0,0,2,0,14,7,39,127,255]) (.nd)) (.nd))) (.nd))) (.nd))))) (.sq (.nd) (.sq (.sq (.nd) (.lc [4,5,10,11,91] [4,5,11,91,302075] ⟨[],[(10,.bx 35 [.i .u32,.i .u32,.i .u32,.sl .n 302075,.sl .n 303700,.li .u32 0,.li .u32 0]),(302076,.mq ⟨(.i .i64),false,(.bool .nil)⟩ 91),(303700,.ar 3 Br)]⟩ [.ti,.ti,.ti,.tq ⟨(.i .i64),false,(.bool .nil)⟩,.tl Br] [(6,⟨[],[(10,.bx 35 [.i .u32,.i .u32,.i .u32,.sl .n 302075,.sl .n 303725,.li .u32 0,.li .u32 0]),(302076,.mp ⟨(.i .i64),false,(.bool .nil)⟩),(303725,.ar 3 Br)]⟩)] [[.ti,.ti,.ti,.tm ⟨(.i .i64),false,(.bool .nil)⟩,.tl Br]] (.nd))) (.sq (.nd) (.sq (.nd) (.jn [4,5,10,11] [4,5,11,302075,302076,303725] [(0,⟨[],[(10,.bx 35 [.i .u32,.i .u32,.i .u32,.sl .n 302075,.sl .n 303725,.i .u32,.li .u32 0])]⟩)] [[.ti,.ti,.ti,.ti]] (.sq (.nd) (.sq (.nd) (.sq (.mk [] [0,1,0,4,0,16,60,124,252,508,1023,2047,4095]) (.nd)))) (.nd)))))))))))))))
theorem nv (k:Nat)(hm:Mo.m=false)(y:Tup gJ):EX Tryz.f13 nY gJ [1000000] lz oL [mW k,um k hm,uw k,wB k,tF k,uv k,vk k,vQ k] k y=Wz k y.1 y.2.1 y.2.2.1 y.2.2.2:=by kernel_rfl
noncomputable def oj (k:Nat)(hm:Mo.m=false):Au Tryz.prog:=CK 13 Tryz.func13 (nv k hm)
noncomputable def FX (k:Nat)(x1:(List BA))(z284:(Int × Jv))(z285:(Int × Int)):Option ((Int × Int) ⊕ Int) :=
cond (decide (z285.2 < (x1.length:Int))) (
(((((ix x1 z285.2).bind fun a286 =>
(x1[z285.2.toNat]?).bind fun a287 =>
cond (decide (z284.1 < a287.2.1)) (
cond (decide (z285.1 < 0)) (
some true) (
(ix x1 z285.2).bind fun a288 =>
(x1[z285.2.toNat]?).bind fun a289 =>
(ix x1 z285.1).bind fun a290 =>
(x1[z285.1.toNat]?).bind fun a291 =>
cond (decide (a289.2.1 < a291.2.1)) (
some true) (
(ix x1 z285.2).bind fun a292 =>
(x1[z285.2.toNat]?).bind fun a293 =>
(ix x1 z285.1).bind fun a294 =>
(x1[z285.1.toNat]?).bind fun a295 =>
cond (a293.2.1 == a295.2.1) (
(ix x1 z285.2).bind fun a296 =>
(x1[z285.2.toNat]?).bind fun a297 =>
(ix x1 z285.1).bind fun a298 =>
(x1[z285.1.toNat]?).bind fun a299 =>
some (decide (a299.1 < a297.1))) (
some false)))) (
some false):Option Bool)).bind fun y300 =>
cond y300 (
some z285.2) (
some z285.1):Option Int)).bind fun y301 =>
some (.inl (y301,(IntKind.wrap .i64 (z285.2+1))))) (
some (.inr z285.1))
noncomputable def Qa (k:Nat)(a304:BA)(x1:(List BA))(y302:Int)(z305:(Int × Jv)):Option ((Int × Jv) ⊕ Jv) :=
(ix x1 y302).bind fun a306 =>
(x1[y302.toNat]?).bind fun a307 =>
cond (decide (z305.1 < (a307.2.2.1.length:Int))) (
(ix x1 y302).bind fun a308 =>
(x1[y302.toNat]?).bind fun a309 =>
(ix a309.2.2.1 z305.1).bind fun a310 =>
(ix x1 y302).bind fun a311 =>
(x1[y302.toNat]?).bind fun a312 =>
Ao (decide ((z305.2.length+[(a310.1,a310.2.1,a310.2.2.1,a310.2.2.2,a304.2.1,a312.1,(IntKind.wrap .i64 (z305.1+1)))].length) * 56<=140737488355328)) <|
some (.inl ((IntKind.wrap .i64 (z305.1+1)),(z305.2 ++ [(a310.1,a310.2.1,a310.2.2.1,a310.2.2.2,a304.2.1,a312.1,(IntKind.wrap .i64 (z305.1+1)))])))) (
some (.inr z305.2))
noncomputable def Wn (k:Nat)(x1:(List BA))(z284:(Int × Jv)):Option ((Int × Jv) ⊕ Jv) :=
(AB (FX k x1 z284) k ((-1),0)).bind fun y302 =>
cond (decide (y302 < 0)) (
some (.inr z284.2)) (
(ix x1 y302).bind fun a303 =>
(x1[y302.toNat]?).bind fun a304 =>
(AB (Qa k a304 x1 y302) k (0,z284.2)).bind fun y313 =>
some (.inl (a304.2.1,y313)))
noncomputable def pd (k:Nat)(x1:(List BA)):Option Jv :=
(AB (Wn k x1) k (0,([]:List (Int × Int × Int × ByteArray × Int × Int × Int)))).bind fun y314 =>
some y314
def A37:AQ:=⟨[.sl .u 1000000],[(1000000,.ar 52 Cr)]⟩
def vL:List Al:=[.tl Cr]
def R37:List AP:=[⟨.sl .u 500000,[(500000,.ar 92 ZT)],[.tl ZT]⟩]
def n37:An:=.sq (.nd) (.sq (.nd) (.sq (.nd) (.lp [0] [] ⟨[(3,.sl .n 300350),(4,.i .u32)],[(300350,.ar 92 ZT)]⟩ [.ti,.tl ZT] [(1,⟨[(2,.sl .n 300375)],[(300375,.ar 92 ZT)]⟩)] [[.tl ZT]] (.sq (.nd) (.sq (.sq (.nd) (.lp [3,4] [300350] ⟨[(5,.i .i64),(6,.i .i64)],[]⟩ [.ti,.ti] [(4,⟨[(5,.i .i64)],[]⟩)] [[.ti]] (.sq (.nd) (.jn [6] [] [(0,⟨[(5,.i .i64)],[]⟩)] [[.ti]] (.jn [5] [] [(0,⟨[(63,.b)],[]⟩)] [[.tb]] (.mk [] [0,0,3,7,15,0,63,127,255,511,1023,2047,2047,8191,16383,32767,2047,2047,198655,460799,985087,2097151,4194303,8388607,16777215,16777215,67108863,134217727,268435455,16777215,16777215,1627389951,3774873599,8069840895,17179869183,34359738367,68719476735,68719476735,274877906943,549755813887,1099511627775,68719476735,68719476735,6665789243391,15461882265599,33054068310015,70368744177663,140737488355327,281474976710655,562949953421311]) (.nd)) (.nd))))) (.sq (.nd) (.sq (.nd) (.sq (.nd) (.lp [4,5] [] ⟨[(3,.sl .n 302150),(7,.i .i64)],[(302150,.ar 92 ZT)]⟩ [.ti,.tl ZT] [(6,⟨[(3,.sl .n 302175)],[(302175,.ar 92 ZT)]⟩)] [[.tl ZT]] (.sq (.nd) (.sq (.mk [] [0,0,0,6,14,30,0,126,254,0,0,0,3072,7168,15360,0,32768,130048,262142,524286,1048575,2097151]) (.nd))))))))))))
theorem e37 (k:Nat)(y:Tup vL):EX Tryz.f37 A37 vL [1000000] R37 n37 [] k y=pd k y:=by kernel_rfl
noncomputable def C37 (k:Nat):Au Tryz.prog:=CK 37 Tryz.func37 (e37 k)
noncomputable def My (k:Nat)(x1:ByteArray)(x2:Int):Option Int :=
Ao (decide (0<=x2/\x2 < (x1.size:Int))) <|
Ao (decide (0<=(IntKind.wrap .i64 (x2+1))/\(IntKind.wrap .i64 (x2+1)) < (x1.size:Int))) <|
Ao (decide (0<=(IntKind.wrap .i64 (x2+2))/\(IntKind.wrap .i64 (x2+2)) < (x1.size:Int))) <|
Ao (decide (0<=(IntKind.wrap .i64 (x2+3))/\(IntKind.wrap .i64 (x2+3)) < (x1.size:Int))) <|
some (bits .or .u32 (bits .or .u32 (bits .or .u32 (IntKind.wrap .u32 (bt x1 x2)) (IntKind.wrap .u32 ((IntKind.wrap .u32 (bt x1 (IntKind.wrap .i64 (x2+1)))) * 2 ^ 8))) (IntKind.wrap .u32 ((IntKind.wrap .u32 (bt x1 (IntKind.wrap .i64 (x2+2)))) * 2 ^ 16))) (IntKind.wrap .u32 ((IntKind.wrap .u32 (bt x1 (IntKind.wrap .i64 (x2+3)))) * 2 ^ 24)))
def A38:AQ:=⟨[.s,.i .i64],[]⟩
def vA:List Al:=[.ts,.ti]
def R38:List AP:=[⟨.i .u32,[],[.ti]⟩]
def n38:An:=.sq (.nd) (.sq (.mk [] [0,0,3,7,0,0,32,112,240,496,1023,0,0,4096,14336,30720,63488,131071,0,0,524288,1835008,3932160,8126464,16777215,33554431]) (.nd))
theorem e38 (k:Nat)(y:Tup vA):EX Tryz.f38 A38 vA [] R38 n38 [] k y=My k y.1 y.2:=by kernel_rfl
noncomputable def qv (k:Nat):Au Tryz.prog:=CK 38 Tryz.func38 (e38 k)
noncomputable def nM (k:Nat)(x1:Int)(x2:Int)(x3:Int)(x4:Int)(x5:Int)(x6:Int)(x7:ByteArray)(x8:Int)(x9:Int)(x10:Int)(x11:Int)(x12:Int)(x13:Int)(x14:ByteArray)(x15:Int)(x16:Int)(x17:Int):Option Bool :=
cond (x8 == x15) (
some (x17 == (IntKind.wrap .i64 (x10+1)))) (
(kU k x1 x2 x3).bind fun y1 =>
cond (x10 == y1) (
cond (x17 == 1) (
some (x15 == (IntKind.wrap .u32 (x8+1)))) (
some false)) (
some false))
def A62:AQ:=⟨[.ag [.i .i64,.i .i64,.i .i64],.ag [.i .i64,.i .u32,.i .u32,.s,.i .u32,.i .i64,.i .i64],.ag [.i .i64,.i .u32,.i .u32,.s,.i .u32,.i .i64,.i .i64]],[]⟩
def vp:List Al:=[.ti,.ti,.ti,.ti,.ti,.ti,.ts,.ti,.ti,.ti,.ti,.ti,.ti,.ts,.ti,.ti,.ti]
def R62:List AP:=[⟨.b,[],[.tb]⟩]
def n62:An:=.sq (.nd) (.sq (.nd) (.sq (.mk [] [0,1,3,0,8,31,63,127,255,511,1023,2047,4095,8191,16383,8191,40959,106495,262143,524287,1048575]) (.nd)))
theorem e62 (k:Nat)(y:Tup vp):EX Tryz.f62 A62 vp [] R62 n62 [uT k] k y=nM k y.1 y.2.1 y.2.2.1 y.2.2.2.1 y.2.2.2.2.1 y.2.2.2.2.2.1 y.2.2.2.2.2.2.1 y.2.2.2.2.2.2.2.1 y.2.2.2.2.2.2.2.2.1 y.2.2.2.2.2.2.2.2.2.1 y.2.2.2.2.2.2.2.2.2.2.1 y.2.2.2.2.2.2.2.2.2.2.2.1 y.2.2.2.2.2.2.2.2.2.2.2.2.1 y.2.2.2.2.2.2.2.2.2.2.2.2.2.1 y.2.2.2.2.2.2.2.2.2.2.2.2.2.2.1 y.2.2.2.2.2.2.2.2.2.2.2.2.2.2.2.1 y.2.2.2.2.2.2.2.2.2.2.2.2.2.2.2.2:=by kernel_rfl
noncomputable def C62 (k:Nat):Au Tryz.prog:=CK 62 Tryz.func62 (e62 k)
noncomputable def pc (k:Nat)(x1:Int)(x2:Int)(x3:Int)(x4:ByteArray):Option Bool :=
((cond (decide (x2 < 1)) (
some true) (
some (decide (2147483647 < x2))):Option Bool)).bind fun y2 =>
cond y2 (
some false) (
cond (x1 == 1) (
some (x4.toList == (⟨#[]⟩:ByteArray).toList)) (
cond (x1 == 2) (
some (!(x4.toList == (⟨#[]⟩:ByteArray).toList))) (
cond (x1 == 3) (
cond (x3 != 0) (
cond ((x4.size:Int) == 16) (
(My k x4 0).bind fun y8 =>
cond (decide (y8 < x2)) (
(My k x4 4).bind fun y9 =>
cond (decide (1<=y9)) (
(My k x4 4).bind fun y10 =>
cond (decide (y10<=x2)) (
(My k x4 12).bind fun y11 =>
some (y11 != 0)) (
some false)) (
some false)) (
some false)) (
some false)) (
some false)) (
cond (x1 == 4) (
cond ((x4.size:Int) == 4) (
(My k x4 0).bind fun y12 =>
some (decide (y12<=x2))) (
some false)) (
some false)))))
def A46:AQ:=⟨[.ag [.i .i64,.i .u32,.i .u32,.s]],[]⟩
def vY:List Al:=[.ti,.ti,.ti,.ts]
def R46:List AP:=[⟨.b,[],[.tb]⟩]
def n46:An:=.sq (.nd) (.sq (.jn [1] [1] [(0,⟨[(10,.b)],[]⟩)] [[.tb]] (.nd) (.nd)) (.sq (.sq (.nd) (.sq (.nd) (.sq (.nd) (.sq (.nd) (.sq (.nd) (.sq (.nd) (.sq (.sq (.mk [] [0,1,3,7,15,31,63,127,255,511,1023,2047,4095,1023,9215,32767,65535,131071,262143,524287,1048575,2097151,4194303,8388607,16777215,33554431,67108863,16777215,150994943,536870911,1073741823,2147483647,4294967295,8589934591,17179869183,34359738367,68719476735,137438953471]) (.nd)) (.sq (.nd) (.sq (.sq (.mk [] [0,1,3,7,15,31,63,127,31,287,1023,2047,4095]) (.nd)) (.nd)))))))))) (.nd)))
theorem e46 (k:Nat)(y:Tup vY):EX Tryz.f46 A46 vY [] R46 n46 [qv k] k y=pc k y.1 y.2.1 y.2.2.1 y.2.2.2:=by kernel_rfl
noncomputable def C46 (k:Nat):Au Tryz.prog:=CK 46 Tryz.func46 (e46 k)
noncomputable def Qy (k:Nat)(x1:ByteArray)(z14:(Int × Int × Int)):Option ((Int × Int × Int) ⊕ (Int ⊕ (Int × Int))) :=
cond (decide (z14.2.2 < 5)) (
cond (decide ((x1.size:Int)<=z14.1)) (
some (.inr (.inl 3))) (
Ao (decide (0<=z14.1/\z14.1 < (x1.size:Int))) <|
((cond (z14.2.2 == 4) (
cond (decide (15 < (bt x1 z14.1))) (
some true) (
cond ((bt x1 z14.1) == 0) (
some (decide (0 < z14.2.2))) (
some false))) (
cond ((bt x1 z14.1) == 0) (
some (decide (0 < z14.2.2))) (
some false)):Option Bool)).bind fun y15 =>
cond y15 (
some (.inr (.inl 2))) (
Ao (decide (0<=(IntKind.wrap .u64 (IntKind.wrap .i64 (7 * z14.2.2))))) <|
cond (decide ((bt x1 z14.1) < 128)) (
some (.inr (.inr ((IntKind.wrap .i64 (z14.1+1)),(bits .or .u32 z14.2.1 (IntKind.wrap .u32 ((IntKind.wrap .u32 ((bt x1 z14.1).tmod 128)) * 2 ^ (min (IntKind.wrap .u64 (IntKind.wrap .i64 (7 * z14.2.2))).toNat 32)))))))) (
some (.inl ((IntKind.wrap .i64 (z14.1+1)),(bits .or .u32 z14.2.1 (IntKind.wrap .u32 ((IntKind.wrap .u32 ((bt x1 z14.1).tmod 128)) * 2 ^ (min (IntKind.wrap .u64 (IntKind.wrap .i64 (7 * z14.2.2))).toNat 32)))),(IntKind.wrap .i64 (z14.2.2+1)))))))) (
some (.inr (.inr (z14.1,z14.2.1))))
noncomputable def my (k:Nat)(x1:ByteArray)(x2:Int):Option (Int × Int × Int) :=
((cond (decide (x2 < 0)) (
some true) (
some (decide ((x1.size:Int) < x2))):Option Bool)).bind fun y2 =>
cond y2 (
some (0,0,1)) (
(AB (Qy k x1) k (x2,0,0)).bind fun y16 =>
BM (fun y17 =>
some (0,0,y17)) (fun y18 =>
some (y18.2,y18.1,0)) y16)
def A72:AQ:=⟨[.s,.i .i64],[]⟩
def vK:List Al:=[.ts,.ti]
def R72:List AP:=[⟨.tp [.i .u32,.i .i64,.i .i64],[],[.ti,.ti,.ti]⟩]
def n72:An:=.sq (.nd) (.sq (.jn [0,1] [] [(0,⟨[(17,.b)],[]⟩)] [[.tb]] (.nd) (.nd)) (.sq (.nd) (.sq (.sq (.nd) (.lp [0] [] ⟨[(1,.i .i64),(7,.i .u32),(8,.i .i64)],[]⟩ [.ti,.ti,.ti] [(1,⟨[(4,.li .u32 0),(5,.li .i64 0),(6,.i .i64)],[]⟩),(2,⟨[(1,.i .i64),(7,.i .u32)],[]⟩)] [[.ti],[.ti,.ti]] (.sq (.nd) (.sq (.sq (.nd) (.sq (.nd) (.sq (.nd) (.sq (.jn [1,7,8,9] [] [(0,⟨[(44,.b)],[]⟩)] [[.tb]] (.nd) (.nd)) (.nd))))) (.nd))))) (.nd))))
theorem e72 (k:Nat)(y:Tup vK):EX Tryz.f72 A72 vK [] R72 n72 [] k y=my k y.1 y.2:=by kernel_rfl
noncomputable def vP (k:Nat):Au Tryz.prog:=CK 72 Tryz.func72 (e72 k)
noncomputable def pA (k:Nat)(x1:ByteArray)(x2:Int)(x3:Int):Option (ByteArray × Int × Int) :=
(my k x1 x2).bind fun y2 =>
cond (y2.2.2 != 0) (
some ((⟨#[]⟩:ByteArray),0,y2.2.2)) (
cond (decide ((mx x3 0) < (IntKind.wrap .i64 y2.1))) (
some ((⟨#[]⟩:ByteArray),0,4)) (
cond (decide ((IntKind.wrap .i64 ((x1.size:Int) - y2.2.1)) < (IntKind.wrap .i64 y2.1))) (
some ((⟨#[]⟩:ByteArray),0,3)) (
Ao (Bn (x1.size:Int) y2.2.1 (IntKind.wrap .i64 (y2.2.1+(IntKind.wrap .i64 y2.1)))) <|
some ((x1.extract y2.2.1.toNat ((IntKind.wrap .i64 (y2.2.1+(IntKind.wrap .i64 y2.1))).toNat)),(IntKind.wrap .i64 (y2.2.1+(IntKind.wrap .i64 y2.1))),0))))
def A73:AQ:=⟨[.s,.i .i64,.i .i64],[]⟩
def vT:List Al:=[.ts,.ti,.ti]
def R73:List AP:=[⟨.tp [.s,.i .i64,.i .i64],[],[.ts,.ti,.ti]⟩]
def n73:An:=.nd
theorem e73 (k:Nat)(y:Tup vT):EX Tryz.f73 A73 vT [] R73 n73 [vP k] k y=pA k y.1 y.2.1 y.2.2:=by kernel_rfl
noncomputable def C73 (k:Nat):Au Tryz.prog:=CK 73 Tryz.func73 (e73 k)
noncomputable def Gc (k:Nat)(x1:(List Ab))(z75:Int):Option (Int ⊕ (Int ⊕ Unit)) :=
cond (decide (z75 < (x1.length:Int))) (
(ix x1 z75).bind fun a76 =>
(YK k a76.1).bind fun y77 =>
cond (!y77) (
some (.inr (.inl 10))) (
(ix x1 z75).bind fun a78 =>
cond (decide (48 < (a78.2.2.size:Int))) (
some (.inr (.inl 11))) (
(((ix x1 z75).bind fun a79 =>
cond a79.2.1 (
(ix x1 z75).bind fun a80 =>
cond (!(a80.2.2.toList == (⟨#[]⟩:ByteArray).toList)) (
some true) (
cond (decide (0 < z75)) (
(ix x1 (IntKind.wrap .i64 (z75 - 1))).bind fun a81 =>
(ix x1 z75).bind fun a82 =>
(UW k a81.1 a82.1).bind fun y83 =>
some (!y83)) (
some false))) (
cond (decide (0 < z75)) (
(ix x1 (IntKind.wrap .i64 (z75 - 1))).bind fun a84 =>
(ix x1 z75).bind fun a85 =>
(UW k a84.1 a85.1).bind fun y86 =>
some (!y86)) (
some false)):Option Bool)).bind fun y87 =>
cond y87 (
some (.inr (.inl 2))) (
some (.inl (IntKind.wrap .i64 (z75+1))))))) (
some (.inr (.inr ())))
noncomputable def Wx (k:Nat)(x1:(List Ab)):Option Int :=
((cond (decide ((x1.length:Int) < 1)) (
some true) (
some (decide (8 < (x1.length:Int)))):Option Bool)).bind fun y2 =>
cond y2 (
some 12) (
(AB (Gc k x1) k 0).bind fun y88 =>
BM (fun y89 =>
some y89) (fun y90 =>
some 0) y88)
def mI:AQ:=⟨[.fz .u CI],[]⟩
def gj:List Al:=[.tl CI]
def mN:List AP:=[⟨.i .i64,[],[.ti]⟩]
def oK:An:=.sq (.nd) (.sq (.jn [0] [] [(0,⟨[(11,.b)],[]⟩)] [[.tb]] (.nd) (.nd)) (.sq (.sq (.nd) (.lp [0] [] ⟨[(3,.i .i64)],[]⟩ [.ti] [(1,⟨[(2,.i .i64)],[]⟩),(2,⟨[],[]⟩)] [[.ti],[]] (.sq (.nd) (.sq (.sq (.nd) (.sq (.nd) (.jn [3] [] [(0,⟨[(63,.b)],[]⟩)] [[.tb]] (.mk [] [0,0,3,7,15,31,63,63,255,511,1023,2047,4095,8191,16383,32767,65535,131071,131071,393215,1048575,2097151,4194303,131071,131071,25296895,58851327,125960191,268435455,536870911,1073741823,2147483647]) (.nd)))) (.nd))))) (.nd)))
theorem oP (k:Nat)(y:Tup gj):EX Tryz.f74 mI gj [] mN oK [ow k,il k] k y=Wx k y:=by kernel_rfl
noncomputable def np (k:Nat):Au Tryz.prog:=CK 74 Tryz.func74 (oP k)
noncomputable def Mn (k:Nat)(x1:ByteArray)(y2:(Int × Int × Int))(z35:(Int × Int × (List Ab))):Option ((Int × Int × (List Ab)) ⊕ (Int ⊕ (Int × (List Ab)))) :=
cond (decide (z35.2.1 < (IntKind.wrap .i64 y2.1))) (
cond (decide ((x1.size:Int)<=z35.1)) (
some (.inr (.inl 3))) (
Ao (decide (0<=z35.1/\z35.1 < (x1.size:Int))) <|
cond (decide (1 < (bt x1 z35.1))) (
some (.inr (.inl 2))) (
Ao (decide (0<=z35.1/\z35.1 < (x1.size:Int))) <|
(pA k x1 (IntKind.wrap .i64 (z35.1+1)) 48).bind fun y36 =>
((((cond (y36.2.2 == 0) (
some (!((bt x1 z35.1) == 1))) (
some false):Option Bool)).bind fun y37 =>
cond y37 (
(pA k x1 y36.2.1 48).bind fun y38 =>
some (y38.2.1,y38.2.2,y36.1,((bt x1 z35.1) == 1),y38.1)) (
some (y36.2.1,y36.2.2,y36.1,((bt x1 z35.1) == 1),ByteArray.empty)):Option (Int × Int × ByteArray × Bool × ByteArray))).bind fun y39 =>
cond (y39.2.1 != 0) (
some (.inr (.inl y39.2.1))) (
Ao (decide ((z35.2.2.length+[(y39.2.2.1,y39.2.2.2.1,y39.2.2.2.2)].length) * 40<=140737488355328)) <|
some (.inl (y39.1,(IntKind.wrap .i64 (z35.2.1+1)),(z35.2.2 ++ [(y39.2.2.1,y39.2.2.2.1,y39.2.2.2.2)]))))))) (
some (.inr (.inr (z35.1,z35.2.2))))
noncomputable def pI (k:Nat)(x1:ByteArray):Option ((List Ab) × Int) :=
(my k x1 0).bind fun y2 =>
cond (y2.2.2 != 0) (
some (([]:List Ab),y2.2.2)) (
((cond (decide (y2.1 < 1)) (
some true) (
some (decide (8 < y2.1))):Option Bool)).bind fun y4 =>
cond y4 (
some (([]:List Ab),12)) (
(AB (Mn k x1 y2) k (y2.2.1,0,([]:List Ab))).bind fun y40 =>
BM (fun y41 =>
some (([]:List Ab),y41)) (fun y42 =>
cond (y42.1 != (x1.size:Int)) (
some (([]:List Ab),2)) (
(Wx k y42.2).bind fun y45 =>
cond (y45 != 0) (
some (([]:List Ab),y45)) (
some (y42.2,0)))) y40))
def A48:AQ:=⟨[.s],[]⟩
def po:List Al:=[.ts]
def R48:List AP:=[⟨.tp [.fz .u CI,.i .i64],[],[.tl CI,.ti]⟩]
def n48:An:=.sq (.nd) (.sq (.nd) (.sq (.nd) (.sq (.jn [0,4,5] [] [(0,⟨[(25,.b)],[]⟩)] [[.tb]] (.nd) (.nd)) (.sq (.nd) (.sq (.sq (.nd) (.lp [0,4] [] ⟨[(5,.i .i64),(7,.sl .n 301300),(8,.i .i64)],[(301300,.ar 148 CI)]⟩ [.ti,.ti,.tl CI] [(1,⟨[(2,.c (.slice none 0 0)),(3,.i .i64)],[]⟩),(2,⟨[(5,.i .i64),(7,.sl .n 301335)],[(301335,.ar 148 CI)]⟩)] [[.ti],[.ti,.tl CI]] (.sq (.nd) (.sq (.sq (.nd) (.sq (.nd) (.sq (.nd) (.sq (.nd) (.jn [7,8,9] [301300] [(0,⟨[(5,.i .i64),(6,.i .i64)],[(9,.bx 148 [.s,.b,.s])]⟩)] [[.ti,.ti,.ts,.tb,.ts]] (.jn [5,6] [9] [(0,⟨[(60,.b)],[]⟩)] [[.tb]] (.nd) (.nd)) (.nd)))))) (.nd))))) (.sq (.nd) (.sq (.sq (.fr [(1,301335)]) (.nd)) (.nd))))))))
theorem e48 (k:Nat)(y:Tup po):EX Tryz.f48 A48 po [] R48 n48 [vP k,C73 k,np k] k y=pI k y:=by kernel_rfl
noncomputable def C48 (k:Nat):Au Tryz.prog:=CK 48 Tryz.func48 (e48 k)
end Go.Proofs.YthoimblkpcikdaaGreatDoor.N

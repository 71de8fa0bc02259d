/- What the functions compute, natively, and that they do. Printed by a program (wip/xg). -/
import Derived.Test.YthoimblkpcikdaaGreatDoorMc4
import Derived.Test.YthoimblkpcikdaaGreatDoorProg
import Derived.Test.YthoimblkpcikdaaGreatDoorShelf
import Derived.Test.YthoimblkpcikdaaGreatDoorBld
namespace Go.Proofs.YthoimblkpcikdaaGreatDoor.N
open Go Go.RowKit Go.Proofs.YthoimblkpcikdaaGreatDoor.Mc Go.Proofs
set_option maxRecDepth 100000
set_option maxHeartbeats 0
set_option linter.unusedVariables false
noncomputable abbrev D:=KQ Tryz.prog
theorem oz:Go.Proofs.YthoimblkpcikdaaGreatDoor.Mc.Good Tryz.prog D:=cH _
theorem mixed:Tryz.prog.follows .mixedOrders=true:=by kernel_rfl
def mZ:List (Nat × Row):=[(26,(.int .i64 (.int .u32 (.sl (.int .i64 (.int .u32 (.int .u32 (.str .nil)))) (.bool .nil))))),(32,(.int .u32 (.int .u32 (.int .u32 (.sl (.str (.bool (.str .nil))) (.sl (.int .i64 (.int .i64 .nil)) .nil)))))),(33,(.int .i64 .nil)),(42,(.str (.bool (.str .nil)))),(45,(.int .i64 (.int .i64 .nil))),(48,(.int .i64 (.int .u32 (.int .u32 (.str .nil))))),(81,(.bool .nil)),(89,(.int .i64 (.int .u32 (.int .u32 (.str (.int .u32 (.int .i64 (.int .i64 .nil)))))))),(111,(.int .u8 .nil)),(124,(.int .i64 (.int .u32 (.sl (.int .i64 (.int .u32 (.int .u32 (.str .nil)))) (.bool .nil))))),(180,(.str .nil)),(300,(.int .i32 .nil))]
def ES:List ByteArray:=[(⟨#[97]⟩:ByteArray),(⟨#[98]⟩:ByteArray),(⟨#[99]⟩:ByteArray),(⟨#[97,98]⟩:ByteArray),(⟨#[107,49]⟩:ByteArray),(⟨#[107,50]⟩:ByteArray),(⟨#[107,51]⟩:ByteArray),(⟨#[195,169]⟩:ByteArray),(⟨#[195,169,97]⟩:ByteArray),(⟨#[240,159,152,128]⟩:ByteArray),(⟨#[42]⟩:ByteArray),(⟨#[122,122]⟩:ByteArray)]
abbrev Cl:Row:=.int .u32 (.int .u32 (.int .u32 (.sl (.str (.bool (.str .nil))) (.sl (.int .i64 (.int .i64 .nil)) .nil))))
abbrev Ck:Row:=.int .i64 (.int .u32 (.sl (.int .i64 (.int .u32 (.int .u32 (.str .nil)))) (.bool .nil)))
abbrev DF:Row:=.int .i64 (.int .u32 (.int .u32 (.str .nil)))
abbrev Bm:Row:=.int .i64 .nil
abbrev CF:Row:=.str (.bool (.str .nil))
abbrev Xm:Row:=.int .i64 (.int .u32 (.int .u32 (.str (.int .u32 (.int .i64 Bm)))))
abbrev eR:Row:=.int .u32 (.int .u32 (.int .u32 (.sl (.int .i64 (.bool (.str .nil))) Bm)))
abbrev Db:Row:=.int .i64 Bm
abbrev Fi:Row:=.int .u8 .nil
abbrev Cp:Type:=Int × Int × Int × (List (ByteArray × Bool × ByteArray)) × (List (Int × Int))
abbrev Ax:Type:=Int × Int × (List (Int × Int × Int × ByteArray)) × Bool
abbrev AY:Type:=ByteArray × Bool × ByteArray
abbrev BV:Type:=Int × Int × Int × ByteArray
abbrev JP:Type:=List (Int × Int × Int × ByteArray × Int × Int × Int)
abbrev Wp:Type:=Unit ⊕ (Int × Int) ⊕ (Int × Int × ByteArray) ⊕ (Int × Int × Int × Int × Int × Int) ⊕ (Int × Int × Int)
variable [Mo]
noncomputable abbrev EX (f:Func)(A:AQ)(h:List Ah)(kp:List Nat)(R:List AP)(n:An)(Γ : List (Ao Tryz.prog))(k:Nat)(y:Tup h):Option (Ea (R.map (·.h))) :=
 exec (P:=Tryz.prog) D (lk mZ) Γ k (Uh f) n (Zk f A kp (FT A (Bc h y))) (gP kp (FT A (Bc h y))) (aY D (Zk f A kp (FT A (Bc h y))) f.results.toList (R.map (·.h)) R)
noncomputable def CK {k:Nat}(i:FuncId){f:Func}(hf:Tryz.prog.funcs[i]? = some f){A:AQ}{h:List Ah}{kp:List Nat}{R:List AP}{n:An}{Γ : List (Ao Tryz.prog)}{F:Tup h->Option (Ea (R.map (·.h)))}(e:∀ y,EX f A h kp R n Γ k y=F y)(h1:(f.name == "runtime.NumGoroutine")=false:=by kernel_rfl)(h2:f.body.isSome=true:=by kernel_rfl)(h3:f.body=some (Uh f):=by kernel_rfl):Ao Tryz.prog :=
 ⟨i,f,hf,h1,h2,A,h,kp,R,F,fun y _ hr=>iG oz mixed (c:=Uh f) hf h3 n y ((e y).trans hr)⟩
noncomputable def bQ (k:Nat)(x1:Int)(x2:Int):Option Int :=
Ai (x2 != 0) <|
((cond (decide ((x1.tmod x2) < 0)) (
some (IntKind.wrap .i64 ((x1.tmod x2)+x2))) (
some (x1.tmod x2)):Option Int)).bind fun y1 =>
some y1
def A18:AQ:=⟨[.i .i64,.i .i64],[]⟩
def tS:List Ah:=[.ti,.ti]
def R18:List AP:=[⟨.i .i64,[],[.ti]⟩]
def n18:An:=.sq (.nd) (.sq (.nd) (.jn [] [] [(0,⟨[(0,.i .i64)],[]⟩)] [[.ti]] (.nd) (.nd)))
theorem e18 (k:Nat)(y:Tup tS):EX Tryz.f18 A18 tS [] R18 n18 [] k y=bQ k y.1 y.2:=by kernel_rfl
noncomputable def ny (k:Nat):Ao Tryz.prog:=CK 18 Tryz.func18 (e18 k)
noncomputable def F8 (k:Nat)(x1:Int)(x2:Int)(x3:Int):Option (Int × Int × Int) :=
(bQ k x1 33).bind fun y1 =>
(bQ k x2 4).bind fun y2 =>
(bQ k x3 4).bind fun y3 =>
some ((IntKind.wrap .i64 (32+y1)),(IntKind.wrap .i64 (3+y2)),(IntKind.wrap .i64 (4+y3)))
def A8:AQ:=⟨[.ag [.i .i64,.i .i64,.i .i64]],[]⟩
def h8:List Ah:=[.ti,.ti,.ti]
def R8:List AP:=[⟨.ag [.i .i64,.i .i64,.i .i64],[],[.ti,.ti,.ti]⟩]
def n8:An:=.sq (.nd) (.sq (.mk [] [0,1,3,7,0,16,55,119,0,256,887,1911,4095,8191]) (.nd))
theorem e8 (k:Nat)(y:Tup h8):EX Tryz.f8 A8 h8 [] R8 n8 [ny k] k y=F8 k y.1 y.2.1 y.2.2:=by kernel_rfl
noncomputable def C8 (k:Nat):Ao Tryz.prog:=CK 8 Tryz.func8 (e8 k)
noncomputable def cR (k:Nat)(x1:Int):Option ByteArray :=
some (strOfNums [(IntKind.wrap .u8 (bits .and .u32 x1 255)),(IntKind.wrap .u8 (bits .and .u32 (x1.fdiv (2 ^ 8)) 255)),(IntKind.wrap .u8 (bits .and .u32 (x1.fdiv (2 ^ 16)) 255)),(IntKind.wrap .u8 (x1.fdiv (2 ^ 24)))])
def A19:AQ:=⟨[.i .u32],[]⟩
def uE:List Ah:=[.ti]
def R19:List AP:=[⟨.s,[],[.ts]⟩]
def n19:An:=.nd
theorem e19 (k:Nat)(y:Tup uE):EX Tryz.f19 A19 uE [] R19 n19 [] k y=cR k y:=by kernel_rfl
noncomputable def rU (k:Nat):Ao Tryz.prog:=CK 19 Tryz.func19 (e19 k)
noncomputable def nq (k:Nat)(x1:Int):Option ByteArray :=
(bQ k x1 12).bind fun y1 =>
(ix ES y1).bind fun a2 =>
some a2
def A68:AQ:=⟨[.i .i64],[]⟩
def uQ:List Ah:=[.ti]
def R68:List AP:=[⟨.s,[],[.ts]⟩]
def n68:An:=.nd
theorem e68 (k:Nat)(y:Tup uQ):EX Tryz.f68 A68 uQ [] R68 n68 [ny k] k y=nq k y:=by kernel_rfl
noncomputable def C68 (k:Nat):Ao Tryz.prog:=CK 68 Tryz.func68 (e68 k)
noncomputable def mH (k:Nat)(x1:Int)(z21:(Int × (List Int))):Option ((Int × (List Int)) ⊕ (List Int)) :=
cond (decide (z21.1 < (z21.2.length:Int))) (
(ix z21.2 z21.1).bind fun a22 =>
((z21.2[z21.1.toNat]?).bind fun a23=>some x1).bind fun a24 =>
some (.inl ((IntKind.wrap .i64 (z21.1+1)),(z21.2.set z21.1.toNat a24)))) (
some (.inr z21.2))
noncomputable def rf (k:Nat)(x1:Int)(x2:Int):Option ByteArray :=
Ai (decide (0<=(mx x2 0)/\(mx x2 0)<=9223372036854775807/\1 * ((mx x2 0).toNat)<=281474976710656)) <|
(AE (mH k x1) k (0,(List.replicate ((mx x2 0).toNat) 0))).bind fun y25 =>
some (strOfNums y25)
def A51:AQ:=⟨[.i .u8,.i .i64],[]⟩
def tI:List Ah:=[.ti,.ti]
def R51:List AP:=[⟨.s,[],[.ts]⟩]
def n51:An:=.sq (.nd) (.sq (.nd) (.sq (.sq (.nd) (.lp [0,5] [] ⟨[(6,.i .i64)],[(9,.ar 5 Fi)]⟩ [.ti,.tl Fi] [(2,⟨[],[(9,.ar 5 Fi)]⟩)] [[.tl Fi]] (.nd))) (.nd)))
theorem e51 (k:Nat)(y:Tup tI):EX Tryz.f51 A51 tI [] R51 n51 [] k y=rf k y.1 y.2:=by kernel_rfl
noncomputable def C51 (k:Nat):Ao Tryz.prog:=CK 51 Tryz.func51 (e51 k)
noncomputable def jx (k:Nat)(x1:ByteArray)(x2:Int):Option ByteArray :=
Ai (Be (x1.size:Int) 0 (mn (x1.size:Int) x2)) <|
some (x1.extract 0 ((mn (x1.size:Int) x2).toNat))
def A25:AQ:=⟨[.s,.i .i64],[]⟩
def tg:List Ah:=[.ts,.ti]
def R25:List AP:=[⟨.s,[],[.ts]⟩]
def n25:An:=.nd
theorem e25 (k:Nat)(y:Tup tg):EX Tryz.f25 A25 tg [] R25 n25 [] k y=jx k y.1 y.2:=by kernel_rfl
noncomputable def C25 (k:Nat):Ao Tryz.prog:=CK 25 Tryz.func25 (e25 k)
noncomputable def ng (k:Nat)(x1:ByteArray)(x2:Int):Option ByteArray :=
(((bQ k x2 9).bind fun y4 =>
cond (y4 == 8) (
(rf k 120 40).bind fun y5 =>
Ai (decide (x1.size+y5.size<=9223372036854775807)) <|
some (x1 ++ y5)) (
some x1):Option ByteArray)).bind fun y6 =>
(jx k y6 48).bind fun y7 =>
some y7
def A69:AQ:=⟨[.s,.i .i64],[]⟩
def tC:List Ah:=[.ts,.ti]
def R69:List AP:=[⟨.s,[],[.ts]⟩]
def n69:An:=.sq (.nd) (.jn [] [] [(0,⟨[(0,.s)],[]⟩)] [[.ts]] (.nd) (.nd))
theorem e69 (k:Nat)(y:Tup tC):EX Tryz.f69 A69 tC [] R69 n69 [ny k,C51 k,C25 k] k y=ng k y.1 y.2:=by kernel_rfl
noncomputable def C69 (k:Nat):Ao Tryz.prog:=CK 69 Tryz.func69 (e69 k)
noncomputable def Jx (k:Nat)(x1:ByteArray)(x2:Int)(x3:Int)(x4:Int):Option Bool :=
cond (decide (x2 < (x1.size:Int))) (
Ai (decide (0<=x2/\x2 < (x1.size:Int))) <|
cond (decide (x3<=(bt x1 x2))) (
Ai (decide (0<=x2/\x2 < (x1.size:Int))) <|
some (decide ((bt x1 x2)<=x4))) (
some false)) (
some false)
def qN:AQ:=⟨[.s,.i .i64,.i .u8,.i .u8],[]⟩
def kI:List Ah:=[.ts,.ti,.ti,.ti]
def sd:List AP:=[⟨.b,[],[.tb]⟩]
def n192:An:=.nd
theorem rm (k:Nat)(y:Tup kI):EX Tryz.f192 qN kI [] sd n192 [] k y=Jx k y.1 y.2.1 y.2.2.1 y.2.2.2:=by kernel_rfl
noncomputable def qL (k:Nat):Ao Tryz.prog:=CK 192 Tryz.func192 (rm k)
noncomputable def dS (k:Nat)(x1:ByteArray)(x2:Int):Option (Int × Int) :=
Ai (decide (0<=x2/\x2 < (x1.size:Int))) <|
cond (decide ((bt x1 x2) < 128)) (
some ((IntKind.wrap .i64 (bt x1 x2)),1)) (
((cond (decide (194<=(bt x1 x2))) (
cond (decide ((bt x1 x2)<=223)) (
(Jx k x1 (IntKind.wrap .i64 (x2+1)) 128 191).bind fun y4 =>
some y4) (
some false)) (
some false):Option Bool)).bind fun y5 =>
cond y5 (
Ai (decide (0<=(IntKind.wrap .i64 (x2+1))/\(IntKind.wrap .i64 (x2+1)) < (x1.size:Int))) <|
some ((IntKind.wrap .i64 ((IntKind.wrap .i64 ((IntKind.wrap .i64 (bits .and .u8 (bt x1 x2) 31)) * 64))+(IntKind.wrap .i64 (bits .and .u8 (bt x1 (IntKind.wrap .i64 (x2+1))) 63)))),2)) (
((cond ((bt x1 x2) == 224) (
some (160,191)) (
cond ((bt x1 x2) == 237) (
some (128,159)) (
cond ((bt x1 x2) == 240) (
some (144,191)) (
cond ((bt x1 x2) == 244) (
some (128,143)) (
some (128,191))))):Option (Int × Int))).bind fun y6 =>
((cond (decide (224<=(bt x1 x2))) (
cond (decide ((bt x1 x2)<=239)) (
(Jx k x1 (IntKind.wrap .i64 (x2+1)) y6.1 y6.2).bind fun y12 =>
cond y12 (
(Jx k x1 (IntKind.wrap .i64 (x2+2)) 128 191).bind fun y13 =>
some y13) (
some false)) (
some false)) (
some false):Option Bool)).bind fun y14 =>
cond y14 (
Ai (decide (0<=(IntKind.wrap .i64 (x2+1))/\(IntKind.wrap .i64 (x2+1)) < (x1.size:Int))) <|
Ai (decide (0<=(IntKind.wrap .i64 (x2+2))/\(IntKind.wrap .i64 (x2+2)) < (x1.size:Int))) <|
some ((IntKind.wrap .i64 ((IntKind.wrap .i64 ((IntKind.wrap .i64 ((IntKind.wrap .i64 (bits .and .u8 (bt x1 x2) 15)) * 4096))+(IntKind.wrap .i64 ((IntKind.wrap .i64 (bits .and .u8 (bt x1 (IntKind.wrap .i64 (x2+1))) 63)) * 64))))+(IntKind.wrap .i64 (bits .and .u8 (bt x1 (IntKind.wrap .i64 (x2+2))) 63)))),3)) (
((cond (decide (240<=(bt x1 x2))) (
cond (decide ((bt x1 x2)<=244)) (
(Jx k x1 (IntKind.wrap .i64 (x2+1)) y6.1 y6.2).bind fun y22 =>
cond y22 (
(Jx k x1 (IntKind.wrap .i64 (x2+2)) 128 191).bind fun y23 =>
cond y23 (
(Jx k x1 (IntKind.wrap .i64 (x2+3)) 128 191).bind fun y24 =>
some y24) (
some false)) (
some false)) (
some false)) (
some false):Option Bool)).bind fun y25 =>
cond y25 (
Ai (decide (0<=(IntKind.wrap .i64 (x2+1))/\(IntKind.wrap .i64 (x2+1)) < (x1.size:Int))) <|
Ai (decide (0<=(IntKind.wrap .i64 (x2+2))/\(IntKind.wrap .i64 (x2+2)) < (x1.size:Int))) <|
Ai (decide (0<=(IntKind.wrap .i64 (x2+3))/\(IntKind.wrap .i64 (x2+3)) < (x1.size:Int))) <|
some ((IntKind.wrap .i64 ((IntKind.wrap .i64 ((IntKind.wrap .i64 ((IntKind.wrap .i64 ((IntKind.wrap .i64 (bits .and .u8 (bt x1 x2) 7)) * 262144))+(IntKind.wrap .i64 ((IntKind.wrap .i64 (bits .and .u8 (bt x1 (IntKind.wrap .i64 (x2+1))) 63)) * 4096))))+(IntKind.wrap .i64 ((IntKind.wrap .i64 (bits .and .u8 (bt x1 (IntKind.wrap .i64 (x2+2))) 63)) * 64))))+(IntKind.wrap .i64 (bits .and .u8 (bt x1 (IntKind.wrap .i64 (x2+3))) 63)))),4)) (
some (65533,1)))))
def pN:AQ:=⟨[.s,.i .i64],[]⟩
def nT:List Ah:=[.ts,.ti]
def pX:List AP:=[⟨.tp [.i .i64,.i .i64],[],[.ti,.ti]⟩]
def n181:An:=.sq (.nd) (.sq (.nd) (.sq (.sq (.nd) (.sq (.nd) (.jn [0,1,6] [] [(0,⟨[(17,.b)],[]⟩)] [[.tb]] (.nd) (.nd)))) (.sq (.nd) (.jn [0,1,6] [] [(0,⟨[(7,.i .u8),(8,.i .u8)],[]⟩)] [[.ti,.ti]] (.nd) (.sq (.jn [0,1,6,7,8] [] [(0,⟨[(69,.b)],[]⟩)] [[.tb]] (.nd) (.sq (.sq (.mk [] [0,1,3,7,0,0,32,112,240,496,1008,2047,0,0,8192,28672,61440,126976,262143,524287,1048575]) (.nd)) (.nd))) (.sq (.jn [0,1,6] [] [(0,⟨[(114,.b)],[]⟩)] [[.tb]] (.nd) (.sq (.sq (.mk [] [0,1,3,7,0,0,32,112,240,496,1008,2047,0,0,8192,28672,61440,126976,258048,524287,0,0,2097152,7340032,15728640,32505856,67108863,134217727,268435455]) (.nd)) (.nd))) (.nd)))))))
theorem rF (k:Nat)(y:Tup nT):EX Tryz.f181 pN nT [] pX n181 [qL k] k y=dS k y.1 y.2:=by kernel_rfl
noncomputable def oc (k:Nat):Ao Tryz.prog:=CK 181 Tryz.func181 (rF k)
noncomputable def Qm (k:Nat)(x1:ByteArray)(z8:(Int × (List Int) × (List Int))):Option ((Int × (List Int) × (List Int)) ⊕ ((List Int) × (List Int))) :=
cond (decide (z8.1 < (x1.size:Int))) (
(dS k x1 z8.1).bind fun y9 =>
Ai (decide ((z8.2.1.length+[y9.1].length) * 8<=140737488355328)) <|
Ai (decide ((z8.2.2.length+[y9.2].length) * 8<=140737488355328)) <|
some (.inl ((IntKind.wrap .i64 (z8.1+y9.2)),(z8.2.1 ++ [y9.1]),(z8.2.2 ++ [y9.2])))) (
some (.inr (z8.2.1,z8.2.2)))
noncomputable def Rx (k:Nat)(x1:ByteArray):Option ((List Int) × (List Int)) :=
(AE (Qm k x1) k (0,([]:List Int),([]:List Int))).bind fun y10 =>
some (y10.1,y10.2)
def pg:AQ:=⟨[.s],[]⟩
def jz:List Ah:=[.ts]
def oE:List AP:=[⟨.tp [.sl .u 500000,.sl .u 500001],[(500000,.ar 3 Bm),(500001,.ar 3 Bm)],[.tl Bm,.tl Bm]⟩]
def n157:An:=.sq (.nd) (.sq (.nd) (.sq (.sq (.nd) (.lp [0] [] ⟨[(4,.sl .n 300400),(5,.sl .n 300401),(6,.i .i64)],[(300400,.ar 3 Bm),(300401,.ar 3 Bm)]⟩ [.ti,.tl Bm,.tl Bm] [(2,⟨[(4,.sl .n 300425),(5,.sl .n 300426)],[(300425,.ar 3 Bm),(300426,.ar 3 Bm)]⟩)] [[.tl Bm,.tl Bm]] (.nd))) (.nd)))
theorem qa (k:Nat)(y:Tup jz):EX Tryz.f157 pg jz [] oE n157 [oc k] k y=Rx k y:=by kernel_rfl
noncomputable def jO (k:Nat):Ao Tryz.prog:=CK 157 Tryz.func157 (qa k)
noncomputable def Pz (k:Nat)(y2:((List Int) × (List Int)))(y4:((List Int) × (List Int)))(z40:Int):Option (Int ⊕ Int) :=
((cond (decide (z40 < (y2.1.length:Int))) (
cond (decide (z40 < (y4.1.length:Int))) (
(ix y2.1 z40).bind fun a41 =>
(y2.1[z40.toNat]?).bind fun a42 =>
(ix y4.1 z40).bind fun a43 =>
(y4.1[z40.toNat]?).bind fun a44 =>
some (a42 == a44)) (
some false)) (
some false):Option Bool)).bind fun y45 =>
cond y45 (
some (.inl (IntKind.wrap .i64 (z40+1)))) (
some (.inr z40))
noncomputable def cB (k:Nat)(x1:ByteArray)(x2:ByteArray):Option Int :=
(Rx k x1).bind fun y2 =>
(Rx k x2).bind fun y4 =>
(AE (Pz k y2 y4) k 0).bind fun y46 =>
some y46
def qq:AQ:=⟨[.s,.s],[]⟩
def kN:List Ah:=[.ts,.ts]
def oP:List AP:=[⟨.i .i64,[],[.ti]⟩]
def n182:An:=.sq (.nd) (.sq (.nd) (.sq (.nd) (.sq (.nd) (.sq (.lp [5,7] [401200,401700] ⟨[(9,.i .i64)],[]⟩ [.ti] [(2,⟨[(9,.i .i64)],[]⟩)] [[.ti]] (.sq (.jn [9] [] [(0,⟨[(40,.b)],[]⟩)] [[.tb]] (.mk [] [0,0,2,7,15,31,31,95,255,511,1023,2047,2047,8191,16383,2047,2047,100351,231423,524287,1048575]) (.nd)) (.nd))) (.nd)))))
theorem rz (k:Nat)(y:Tup kN):EX Tryz.f182 qq kN [] oP n182 [jO k] k y=cB k y.1 y.2:=by kernel_rfl
noncomputable def oY (k:Nat):Ao Tryz.prog:=CK 182 Tryz.func182 (rz k)
noncomputable def ZV (k:Nat)(x1:ByteArray)(x2:ByteArray):Option Int :=
(Rx k x1).bind fun y2 =>
(Rx k x2).bind fun y4 =>
(cB k x1 x2).bind fun y6 =>
((cond (y6 == (y2.1.length:Int)) (
some (y6 == (y4.1.length:Int))) (
some false):Option Bool)).bind fun y12 =>
cond y12 (
some 0) (
cond (y6 == (y2.1.length:Int)) (
some (-1)) (
cond (y6 == (y4.1.length:Int)) (
some 1) (
(ix y2.1 y6).bind fun a13 =>
(y2.1[y6.toNat]?).bind fun a14 =>
(ix y4.1 y6).bind fun a15 =>
(y4.1[y6.toNat]?).bind fun a16 =>
cond (decide (a14 < a16)) (
some (-1)) (
some 1))))
def sD:AQ:=⟨[.s,.s],[]⟩
def mN:List Ah:=[.ts,.ts]
def pB:List AP:=[⟨.i .i64,[],[.ti]⟩]
def n159:An:=.sq (.nd) (.sq (.nd) (.sq (.nd) (.sq (.nd) (.sq (.jn [5,7,9] [401200,401700] [(0,⟨[(23,.b)],[]⟩)] [[.tb]] (.nd) (.sq (.nd) (.sq (.nd) (.sq (.nd) (.sq (.nd) (.sq (.nd) (.sq (.mk [] [0,0,3,7,0,0,48,112,255,511]) (.nd)))))))) (.nd)))))
theorem ph (k:Nat)(y:Tup mN):EX Tryz.f159 sD mN [] pB n159 [jO k,oY k] k y=ZV k y.1 y.2:=by kernel_rfl
noncomputable def sW (k:Nat):Ao Tryz.prog:=CK 159 Tryz.func159 (ph k)
noncomputable def Rq (k:Nat)(x1:ByteArray)(x2:ByteArray):Option Bool :=
(ZV k x1 x2).bind fun y2 =>
cond (decide (y2 < 0)) (
some true) (
cond (y2 == 0) (
some (Op.bytesLess x1.toList x2.toList)) (
some false))
def qW:AQ:=⟨[.s,.s],[]⟩
def kX:List Ah:=[.ts,.ts]
def oG:List AP:=[⟨.b,[],[.tb]⟩]
def n114:An:=.nd
theorem qo (k:Nat)(y:Tup kX):EX Tryz.f114 qW kX [] oG n114 [sW k] k y=Rq k y.1 y.2:=by kernel_rfl
noncomputable def jV (k:Nat):Ao Tryz.prog:=CK 114 Tryz.func114 (qo k)
noncomputable def LG (k:Nat)(x1:(List ByteArray))(z115:(Int × (List ByteArray)))(z116:Int):Option (Int ⊕ Int) :=
((cond (decide (z116 < (z115.2.length:Int))) (
(ix z115.2 z116).bind fun a117 =>
(z115.2[z116.toNat]?).bind fun a118 =>
(ix x1 z115.1).bind fun a119 =>
(Rq k a118 a119).bind fun y120 =>
some y120) (
some false):Option Bool)).bind fun y121 =>
cond y121 (
some (.inl (IntKind.wrap .i64 (z116+1)))) (
some (.inr z116))
noncomputable def Qn (k:Nat)(x1:(List ByteArray))(z115:(Int × (List ByteArray))):Option ((Int × (List ByteArray)) ⊕ (List ByteArray)) :=
cond (decide (z115.1 < (x1.length:Int))) (
(((AE (LG k x1 z115) k 0).bind fun y122 =>
((cond (decide (y122 < (z115.2.length:Int))) (
(ix z115.2 y122).bind fun a123 =>
(z115.2[y122.toNat]?).bind fun a124 =>
(ix x1 z115.1).bind fun a125 =>
some (a124.toList == a125.toList)) (
some false):Option Bool)).bind fun y126 =>
cond y126 (
some z115.2) (
Ai (Be (z115.2.length:Int) 0 y122) <|
Ai (decide ((([]:List ByteArray).length+((z115.2.drop 0).take (y122.toNat - 0)).length) * 16<=140737488355328)) <|
(ix x1 z115.1).bind fun a127 =>
Ai (decide (((([]:List ByteArray) ++ ((z115.2.drop 0).take (y122.toNat - 0))).length+[a127].length) * 16<=140737488355328)) <|
Ai (Be (z115.2.length:Int) y122 (z115.2.length:Int)) <|
Ai (decide ((((([]:List ByteArray) ++ ((z115.2.drop 0).take (y122.toNat - 0))) ++ [a127]).length+((z115.2.drop y122.toNat).take (((z115.2.length:Int).toNat) - y122.toNat)).length) * 16<=140737488355328)) <|
some (((([]:List ByteArray) ++ ((z115.2.drop 0).take (y122.toNat - 0))) ++ [a127]) ++ ((z115.2.drop y122.toNat).take (((z115.2.length:Int).toNat) - y122.toNat)))):Option (List ByteArray))).bind fun y128 =>
some (.inl ((IntKind.wrap .i64 (z115.1+1)),y128))) (
some (.inr z115.2))
noncomputable def dQ (k:Nat)(x1:(List ByteArray)):Option (List ByteArray) :=
(AE (Qn k x1) k (0,([]:List ByteArray))).bind fun y129 =>
some y129
def ow:AQ:=⟨[.fz .u (.str .nil)],[]⟩
def mP:List Ah:=[.tl (.str .nil)]
def sK:List AP:=[⟨.sl .u 500000,[(500000,.ar 9 (.str .nil))],[.tl (.str .nil)]⟩]
def n156:An:=.sq (.nd) (.sq (.nd) (.sq (.sq (.nd) (.lp [0] [] ⟨[(3,.sl .n 300400),(4,.i .i64)],[(300400,.ar 9 (.str .nil))]⟩ [.ti,.tl (.str .nil)] [(2,⟨[(3,.sl .n 300425)],[(300425,.ar 9 (.str .nil))]⟩)] [[.tl (.str .nil)]] (.sq (.nd) (.jn [4] [] [(0,⟨[(3,.sl .n 300750)],[(300750,.ar 9 (.str .nil))]⟩)] [[.tl (.str .nil)]] (.sq (.nd) (.sq (.lp [3] [300400] ⟨[(5,.i .i64)],[]⟩ [.ti] [(4,⟨[(5,.i .i64)],[]⟩)] [[.ti]] (.sq (.jn [5] [] [(0,⟨[(26,.b)],[]⟩)] [[.tb]] (.mk [] [0,0,2,7,15,31,31,127,255,31,31,1567,3615,8191,16383]) (.nd)) (.nd))) (.sq (.jn [3,5] [300400] [(0,⟨[(43,.b)],[]⟩)] [[.tb]] (.mk [] [0,0,2,7,15,31,31,127,255,31,31,1567,3615,8191,16383]) (.nd)) (.mk [] [0,0,3,7,0,0,48,112,240,511,0,0,3072,8191,16383])))) (.nd))))) (.nd)))
theorem oU (k:Nat)(y:Tup mP):EX Tryz.f156 ow mP [] sK n156 [jV k] k y=dQ k y:=by kernel_rfl
noncomputable def rj (k:Nat):Ao Tryz.prog:=CK 156 Tryz.func156 (oU k)
noncomputable def Tm (k:Nat)(x1:(List AY))(z8:(Int × (List ByteArray))):Option ((Int × (List ByteArray)) ⊕ (List ByteArray)) :=
cond (decide (z8.1 < (x1.length:Int))) (
(ix x1 z8.1).bind fun a9 =>
Ai (decide ((z8.2.length+[a9.1].length) * 16<=140737488355328)) <|
some (.inl ((IntKind.wrap .i64 (z8.1+1)),(z8.2 ++ [a9.1])))) (
some (.inr z8.2))
noncomputable def cC (k:Nat)(x1:(List AY)):Option (List ByteArray) :=
(AE (Tm k x1) k (0,([]:List ByteArray))).bind fun y10 =>
(dQ k y10).bind fun y11 =>
some y11
def sg:AQ:=⟨[.fz .u CF],[]⟩
def kE:List Ah:=[.tl CF]
def se:List AP:=[⟨.sl .u 500000,[(500000,.ar 9 (.str .nil))],[.tl (.str .nil)]⟩]
def n111:An:=.sq (.nd) (.sq (.nd) (.sq (.sq (.nd) (.lp [0] [] ⟨[(3,.sl .n 300400),(4,.i .i64)],[(300400,.ar 9 (.str .nil))]⟩ [.ti,.tl (.str .nil)] [(2,⟨[(3,.sl .n 300425)],[(300425,.ar 9 (.str .nil))]⟩)] [[.tl (.str .nil)]] (.nd))) (.sq (.fr [(1,300425)]) (.nd))))
theorem sI (k:Nat)(y:Tup kE):EX Tryz.f111 sg kE [] se n111 [rj k] k y=cC k y:=by kernel_rfl
noncomputable def rR (k:Nat):Ao Tryz.prog:=CK 111 Tryz.func111 (sI k)
noncomputable def NU (k:Nat)(x1:(List AY))(x2:ByteArray)(z13:(Int × ByteArray × ByteArray)):Option ((Int × ByteArray × ByteArray) ⊕ (AY ⊕ (ByteArray × ByteArray))) :=
cond (decide (0<=z13.1)) (
(ix x1 z13.1).bind fun a14 =>
cond (a14.1.toList == x2.toList) (
(ix x1 z13.1).bind fun a15 =>
some (.inr (.inl (a15.1,a15.2.1,a15.2.2)))) (
some (.inl ((IntKind.wrap .i64 (z13.1 - 1)),z13.2.1,z13.2.2)))) (
some (.inr (.inr (z13.2.1,z13.2.2))))
noncomputable def da (k:Nat)(x1:(List AY))(x2:ByteArray):Option (ByteArray × Bool × ByteArray × Bool) :=
(AE (NU k x1 x2) k ((IntKind.wrap .i64 ((x1.length:Int) - 1)),ByteArray.empty,ByteArray.empty)).bind fun y16 =>
BN (fun y17 =>
some (y17.1,y17.2.1,y17.2.2,true)) (fun y18 =>
some (ByteArray.empty,false,ByteArray.empty,false)) y16
def pG:AQ:=⟨[.fz .u CF,.s],[]⟩
def kU:List Ah:=[.tl CF,.ts]
def pH:List AP:=[⟨.tp [.ag [.s,.b,.s],.b],[],[.ts,.tb,.ts,.tb]⟩]
def n112:An:=.sq (.nd) (.sq (.sq (.nd) (.lp [0,1,4] [] ⟨[(6,.i .i64)],[(4,.bx 148 [.s,.lb false,.s])]⟩ [.ti,.ts,.ts] [(1,⟨[(5,.lb true)],[(4,.bx 148 [.s,.b,.s])]⟩),(2,⟨[],[(4,.bx 148 [.s,.lb false,.s])]⟩)] [[.ts,.tb,.ts],[.ts,.ts]] (.nd))) (.nd))
theorem pb (k:Nat)(y:Tup kU):EX Tryz.f112 pG kU [] pH n112 [] k y=da k y.1 y.2:=by kernel_rfl
noncomputable def ot (k:Nat):Ao Tryz.prog:=CK 112 Tryz.func112 (pb k)
noncomputable def Ui (k:Nat)(x1:(List AY))(y2:(List ByteArray))(z31:(Int × (List AY))):Option ((Int × (List AY)) ⊕ (List AY)) :=
cond (decide (z31.1 < (y2.length:Int))) (
(ix y2 z31.1).bind fun a32 =>
(y2[z31.1.toNat]?).bind fun a33 =>
(da k x1 a33).bind fun y34 =>
((cond y34.2.1 (
some (y34.1,y34.2.1,(⟨#[]⟩:ByteArray))) (
some (y34.1,y34.2.1,y34.2.2.1)):Option AY)).bind fun y35 =>
Ai (decide ((z31.2.length+[(y35.1,y35.2.1,y35.2.2)].length) * 40<=140737488355328)) <|
some (.inl ((IntKind.wrap .i64 (z31.1+1)),(z31.2 ++ [(y35.1,y35.2.1,y35.2.2)])))) (
some (.inr z31.2))
noncomputable def nj (k:Nat)(x1:(List AY)):Option (List AY) :=
(cC k x1).bind fun y2 =>
(AE (Ui k x1 y2) k (0,([]:List AY))).bind fun y36 =>
some y36
def A70:AQ:=⟨[.fz .u CF],[]⟩
def uh:List Ah:=[.tl CF]
def R70:List AP:=[⟨.sl .u 500000,[(500000,.ar 148 CF)],[.tl CF]⟩]
def n70:An:=.sq (.nd) (.sq (.nd) (.sq (.nd) (.sq (.sq (.nd) (.lp [0,3] [400900] ⟨[(4,.sl .n 300500),(5,.i .i64)],[(300500,.ar 148 CF)]⟩ [.ti,.tl CF] [(2,⟨[(4,.sl .n 300525)],[(300525,.ar 148 CF)]⟩)] [[.tl CF]] (.sq (.nd) (.sq (.sq (.nd) (.jn [4,5,6] [300500] [(0,⟨[],[(6,.bx 148 [.s,.b,.s])]⟩)] [[.ts,.tb,.ts]] (.nd) (.nd))) (.nd))))) (.nd))))
theorem e70 (k:Nat)(y:Tup uh):EX Tryz.f70 A70 uh [] R70 n70 [rR k,ot k] k y=nj k y:=by kernel_rfl
noncomputable def C70 (k:Nat):Ao Tryz.prog:=CK 70 Tryz.func70 (e70 k)
noncomputable def aV (k:Nat)(x1:(List (Int × Bool × ByteArray)))(x2:Int)(z55:(Int × (List AY))):Option ((Int × (List AY)) ⊕ (List AY)) :=
((cond (decide (z55.1 < (x1.length:Int))) (
some (decide (z55.1 < x2))) (
some false):Option Bool)).bind fun y56 =>
cond y56 (
(ix x1 z55.1).bind fun a57 =>
(nq k a57.1).bind fun y58 =>
(ix x1 z55.1).bind fun a59 =>
((cond (!a59.2.1) (
(ix x1 z55.1).bind fun a60 =>
(ix x1 z55.1).bind fun a61 =>
(ng k a60.2.2 (IntKind.wrap .i64 (a61.1.tdiv 12))).bind fun y62 =>
some (y58,a59.2.1,y62)) (
some (y58,a59.2.1,ByteArray.empty)):Option AY)).bind fun y63 =>
Ai (decide ((z55.2.length+[(y63.1,y63.2.1,y63.2.2)].length) * 40<=140737488355328)) <|
some (.inl ((IntKind.wrap .i64 (z55.1+1)),(z55.2 ++ [(y63.1,y63.2.1,y63.2.2)])))) (
some (.inr z55.2))
noncomputable def kQ (k:Nat)(x1:(List (Int × Bool × ByteArray)))(x2:Int):Option (List AY) :=
(AE (aV k x1 x2) k (0,([]:List AY))).bind fun y64 =>
((cond ((y64.length:Int) == 0) (
some [((⟨#[97]⟩:ByteArray),false,(⟨#[49]⟩:ByteArray))]) (
some y64):Option (List AY))).bind fun y65 =>
(nj k y65).bind fun y66 =>
some y66
def A45:AQ:=⟨[.fz .u (.int .i64 (.bool (.str .nil))),.i .i64],[]⟩
def uo:List Ah:=[.tl (.int .i64 (.bool (.str .nil))),.ti]
def R45:List AP:=[⟨.sl .u 500000,[(500000,.ar 148 CF)],[.tl CF]⟩]
def n45:An:=.sq (.nd) (.sq (.nd) (.sq (.sq (.nd) (.lp [0,1] [] ⟨[(5,.sl .n 300400),(6,.i .i64)],[(300400,.ar 148 CF)]⟩ [.ti,.tl CF] [(2,⟨[(5,.sl .n 300425)],[(300425,.ar 148 CF)]⟩)] [[.tl CF]] (.sq (.jn [5,6] [300400] [(0,⟨[(16,.b)],[]⟩)] [[.tb]] (.nd) (.nd)) (.sq (.sq (.mk [] [0,0,3,7,15,31,0,0,192,448,960,2047,0,8191]) (.jn [5,6,7] [300400] [(0,⟨[],[(7,.bx 148 [.s,.b,.s])]⟩)] [[.ts,.tb,.ts]] (.sq (.nd) (.sq (.mk [] [0,0,3,7,15,0,0,96,224,480,992,2047,4095,8191]) (.nd))) (.nd))) (.nd))))) (.jn [] [] [(0,⟨[(5,.sl .u 301350)],[(301350,.ar 148 CF)]⟩)] [[.tl CF]] (.nd) (.sq (.fr [(1,301350)]) (.nd)))))
theorem e45 (k:Nat)(y:Tup uo):EX Tryz.f45 A45 uo [] R45 n45 [C68 k,C69 k,C70 k] k y=kQ k y.1 y.2:=by kernel_rfl
noncomputable def C45 (k:Nat):Ao Tryz.prog:=CK 45 Tryz.func45 (e45 k)
noncomputable def nb (k:Nat)(x1:Int)(x2:Int)(x3:Int):Option Bool :=
cond (decide (32<=x1)) (
cond (decide (x1<=128)) (
cond (decide (3<=x2)) (
cond (decide (x2<=10)) (
cond (decide (4<=x3)) (
some (decide (x3<=12))) (
some false)) (
some false)) (
some false)) (
some false)) (
some false)
def A63:AQ:=⟨[.ag [.i .i64,.i .i64,.i .i64]],[]⟩
def aO:List Ah:=[.ti,.ti,.ti]
def R63:List AP:=[⟨.b,[],[.tb]⟩]
def n63:An:=.nd
theorem e63 (k:Nat)(y:Tup aO):EX Tryz.f63 A63 aO [] R63 n63 [] k y=nb k y.1 y.2.1 y.2.2:=by kernel_rfl
noncomputable def C63 (k:Nat):Ao Tryz.prog:=CK 63 Tryz.func63 (e63 k)
noncomputable def dW (k:Nat)(x1:Int)(x2:Int):Option Bool :=
cond (decide (33<=x1)) (
cond (decide (127<=x1)) (
cond (!(decide (x1<=160))) (
cond (x1 == 65533) (
some (!(x2 == 1))) (
some true)) (
some false)) (
cond (x1 == 65533) (
some (!(x2 == 1))) (
some true))) (
some false)
def oM:AQ:=⟨[.i .i64,.i .i64],[]⟩
def lN:List Ah:=[.ti,.ti]
def qF:List AP:=[⟨.b,[],[.tb]⟩]
def n158:An:=.nd
theorem sY (k:Nat)(y:Tup lN):EX Tryz.f158 oM lN [] qF n158 [] k y=dW k y.1 y.2:=by kernel_rfl
noncomputable def ql (k:Nat):Ao Tryz.prog:=CK 158 Tryz.func158 (sY k)
noncomputable def Li (k:Nat)(y2:((List Int) × (List Int)))(z42:Int):Option (Int ⊕ (Unit ⊕ Unit)) :=
cond (decide (z42 < (y2.1.length:Int))) (
(ix y2.1 z42).bind fun a43 =>
(y2.1[z42.toNat]?).bind fun a44 =>
(ix y2.2 z42).bind fun a45 =>
(y2.2[z42.toNat]?).bind fun a46 =>
(dW k a44 a46).bind fun y47 =>
cond (!y47) (
some (.inr (.inl ()))) (
some (.inl (IntKind.wrap .i64 (z42+1))))) (
some (.inr (.inr ())))
noncomputable def Wq (k:Nat)(x1:ByteArray):Option Bool :=
(Rx k x1).bind fun y2 =>
(AE (Li k y2) k 0).bind fun y48 =>
BN (fun y49 =>
some false) (fun y50 =>
cond (decide (1<=(y2.1.length:Int))) (
some (decide ((y2.1.length:Int)<=12))) (
some false)) y48
def rD:AQ:=⟨[.s],[]⟩
def nO:List Ah:=[.ts]
def pP:List AP:=[⟨.b,[],[.tb]⟩]
def n113:An:=.sq (.nd) (.sq (.nd) (.sq (.sq (.nd) (.lp [3,4] [400800,400801] ⟨[(5,.i .i64)],[]⟩ [.ti] [(1,⟨[(2,.lb false)],[]⟩),(2,⟨[],[]⟩)] [[],[]] (.sq (.nd) (.sq (.sq (.mk [] [0,0,3,7,0,0,48,112,255,511]) (.nd)) (.nd))))) (.nd)))
theorem rk (k:Nat)(y:Tup nO):EX Tryz.f113 rD nO [] pP n113 [jO k,ql k] k y=Wq k y:=by kernel_rfl
noncomputable def lG (k:Nat):Ao Tryz.prog:=CK 113 Tryz.func113 (rk k)
noncomputable def ME (k:Nat)(x1:(List AY))(z121:Int):Option (Int ⊕ (Int ⊕ Unit)) :=
cond (decide (z121 < (x1.length:Int))) (
(ix x1 z121).bind fun a122 =>
(x1[z121.toNat]?).bind fun a123 =>
(Wq k a123.1).bind fun y124 =>
cond (!y124) (
some (.inr (.inl 10))) (
(ix x1 z121).bind fun a125 =>
(x1[z121.toNat]?).bind fun a126 =>
cond (decide (48 < (a126.2.2.size:Int))) (
some (.inr (.inl 11))) (
(((ix x1 z121).bind fun a127 =>
(x1[z121.toNat]?).bind fun a128 =>
cond a128.2.1 (
(ix x1 z121).bind fun a129 =>
(x1[z121.toNat]?).bind fun a130 =>
cond (!(a130.2.2.toList == (⟨#[]⟩:ByteArray).toList)) (
some true) (
cond (decide (0 < z121)) (
(ix x1 (IntKind.wrap .i64 (z121 - 1))).bind fun a131 =>
(x1[(IntKind.wrap .i64 (z121 - 1)).toNat]?).bind fun a132 =>
(ix x1 z121).bind fun a133 =>
(x1[z121.toNat]?).bind fun a134 =>
(Rq k a132.1 a134.1).bind fun y135 =>
some (!y135)) (
some false))) (
cond (decide (0 < z121)) (
(ix x1 (IntKind.wrap .i64 (z121 - 1))).bind fun a136 =>
(x1[(IntKind.wrap .i64 (z121 - 1)).toNat]?).bind fun a137 =>
(ix x1 z121).bind fun a138 =>
(x1[z121.toNat]?).bind fun a139 =>
(Rq k a137.1 a139.1).bind fun y140 =>
some (!y140)) (
some false)):Option Bool)).bind fun y141 =>
cond y141 (
some (.inr (.inl 2))) (
some (.inl (IntKind.wrap .i64 (z121+1))))))) (
some (.inr (.inr ())))
noncomputable def nk (k:Nat)(x1:(List AY)):Option Int :=
((cond (decide ((x1.length:Int) < 1)) (
some true) (
some (decide (8 < (x1.length:Int)))):Option Bool)).bind fun y2 =>
cond y2 (
some 12) (
(AE (ME k x1) k 0).bind fun y142 =>
BN (fun y143 =>
some y143) (fun y144 =>
some 0) y142)
def A74:AQ:=⟨[.sl .u 1000000],[(1000000,.ar 148 CF)]⟩
def sy:List Ah:=[.tl CF]
def R74:List AP:=[⟨.i .i64,[],[.ti]⟩]
def n74:An:=.sq (.nd) (.sq (.jn [0] [] [(0,⟨[(11,.b)],[]⟩)] [[.tb]] (.nd) (.nd)) (.sq (.sq (.nd) (.lp [0] [] ⟨[(3,.i .i64)],[]⟩ [.ti] [(1,⟨[(2,.i .i64)],[]⟩),(2,⟨[],[]⟩)] [[.ti],[]] (.sq (.nd) (.sq (.sq (.nd) (.sq (.nd) (.jn [3] [] [(0,⟨[(63,.b)],[]⟩)] [[.tb]] (.mk [] [0,0,3,7,15,31,63,63,255,511,1023,2047,4095,8191,16383,32767,65535,131071,131071,393215,1048575,2097151,4194303,131071,131071,25296895,58851327,125960191,268435455,536870911,1073741823,2147483647]) (.nd)))) (.nd))))) (.nd)))
theorem e74 (k:Nat)(y:Tup sy):EX Tryz.f74 A74 sy [1000000] R74 n74 [lG k,jV k] k y=nk k y:=by kernel_rfl
noncomputable def C74 (k:Nat):Ao Tryz.prog:=CK 74 Tryz.func74 (e74 k)
noncomputable def QJ (k:Nat)(z3:(Int × (List Int))):Option ((Int × (List Int)) ⊕ (Int × (List Int))) :=
cond (decide (128<=z3.1)) (
Ai (decide ((z3.2.length+[(IntKind.wrap .u8 ((IntKind.wrap .u8 (z3.1.tmod 128))+128))].length) * 1<=140737488355328)) <|
some (.inl ((IntKind.wrap .u32 (z3.1.tdiv 128)),(z3.2 ++ [(IntKind.wrap .u8 ((IntKind.wrap .u8 (z3.1.tmod 128))+128))])))) (
some (.inr (z3.1,z3.2)))
noncomputable def ZM (k:Nat)(x1:Int):Option ByteArray :=
(AE (QJ k) k (x1,([]:List Int))).bind fun y4 =>
Ai (decide ((y4.2.length+[(IntKind.wrap .u8 y4.1)].length) * 1<=140737488355328)) <|
some (strOfNums (y4.2 ++ [(IntKind.wrap .u8 y4.1)]))
def pA:AQ:=⟨[.i .u32],[]⟩
def kO:List Ah:=[.ti]
def oO:List AP:=[⟨.s,[],[.ts]⟩]
def n109:An:=.sq (.nd) (.sq (.nd) (.sq (.lp [] [] ⟨[(0,.i .u32),(3,.sl .n 300300)],[(300300,.ar 5 Fi)]⟩ [.ti,.tl Fi] [(2,⟨[(0,.i .u32),(3,.sl .n 300325)],[(300325,.ar 5 Fi)]⟩)] [[.ti,.tl Fi]] (.nd)) (.nd)))
theorem qv (k:Nat)(y:Tup kO):EX Tryz.f109 pA kO [] oO n109 [] k y=ZM k y:=by kernel_rfl
noncomputable def kJ (k:Nat):Ao Tryz.prog:=CK 109 Tryz.func109 (qv k)
noncomputable def Wx (k:Nat)(x1:ByteArray):Option ByteArray :=
(ZM k (IntKind.wrap .u32 (x1.size:Int))).bind fun y1 =>
Ai (decide (y1.size+x1.size<=9223372036854775807)) <|
some (y1 ++ x1)
def pD:AQ:=⟨[.s],[]⟩
def kG:List Ah:=[.ts]
def rZ:List AP:=[⟨.s,[],[.ts]⟩]
def n110:An:=.nd
theorem rY (k:Nat)(y:Tup kG):EX Tryz.f110 pD kG [] rZ n110 [kJ k] k y=Wx k y:=by kernel_rfl
noncomputable def qI (k:Nat):Ao Tryz.prog:=CK 110 Tryz.func110 (rY k)
noncomputable def QG (k:Nat)(x1:(List AY))(z66:(ByteArray × Int)):Option ((ByteArray × Int) ⊕ ByteArray) :=
cond (decide (z66.2 < (x1.length:Int))) (
(((ix x1 z66.2).bind fun a67 =>
(x1[z66.2.toNat]?).bind fun a68 =>
cond a68.2.1 (
(ix x1 z66.2).bind fun a69 =>
(x1[z66.2.toNat]?).bind fun a70 =>
(Wx k a70.1).bind fun y71 =>
Ai (decide ((⟨#[1]⟩:ByteArray).size+y71.size<=9223372036854775807)) <|
Ai (decide (z66.1.size+((⟨#[1]⟩:ByteArray) ++ y71).size<=9223372036854775807)) <|
some (z66.1 ++ ((⟨#[1]⟩:ByteArray) ++ y71))) (
(ix x1 z66.2).bind fun a72 =>
(x1[z66.2.toNat]?).bind fun a73 =>
(Wx k a73.1).bind fun y74 =>
Ai (decide ((⟨#[0]⟩:ByteArray).size+y74.size<=9223372036854775807)) <|
(ix x1 z66.2).bind fun a75 =>
(x1[z66.2.toNat]?).bind fun a76 =>
(Wx k a76.2.2).bind fun y77 =>
Ai (decide (((⟨#[0]⟩:ByteArray) ++ y74).size+y77.size<=9223372036854775807)) <|
Ai (decide (z66.1.size+(((⟨#[0]⟩:ByteArray) ++ y74) ++ y77).size<=9223372036854775807)) <|
some (z66.1 ++ (((⟨#[0]⟩:ByteArray) ++ y74) ++ y77))):Option ByteArray)).bind fun y78 =>
some (.inl (y78,(IntKind.wrap .i64 (z66.2+1))))) (
some (.inr z66.1))
noncomputable def nw (k:Nat)(x1:(List AY)):Option (ByteArray × Int) :=
(nk k x1).bind fun y3 =>
cond (y3 != 0) (
some ((⟨#[]⟩:ByteArray),y3)) (
(ZM k (IntKind.wrap .u32 (x1.length:Int))).bind fun y5 =>
(AE (QG k x1) k (y5,0)).bind fun y79 =>
some (y79,0))
def A64:AQ:=⟨[.sl .u 1000000],[(1000000,.ar 148 CF)]⟩
def tV:List Ah:=[.tl CF]
def R64:List AP:=[⟨.tp [.s,.i .i64],[],[.ts,.ti]⟩]
def n64:An:=.sq (.nd) (.sq (.nd) (.sq (.nd) (.sq (.sq (.nd) (.lp [0] [] ⟨[(5,.s),(6,.i .i64)],[]⟩ [.ts,.ti] [(2,⟨[(5,.s)],[]⟩)] [[.ts]] (.sq (.nd) (.jn [6] [] [(0,⟨[(5,.s)],[]⟩)] [[.ts]] (.sq (.nd) (.sq (.nd) (.mk [] [0,0,0,6,14,30,62,126,0,0,768,1792,3840,8062,16382,32767,65535]))) (.nd))))) (.nd))))
theorem e64 (k:Nat)(y:Tup tV):EX Tryz.f64 A64 tV [1000000] R64 n64 [C74 k,kJ k,qI k] k y=nw k y:=by kernel_rfl
noncomputable def C64 (k:Nat):Ao Tryz.prog:=CK 64 Tryz.func64 (e64 k)
noncomputable def gk (k:Nat)(x1:Int)(x2:Int)(x3:Int):Option Int :=
some (IntKind.wrap .i64 (x1 - 15))
def A67:AQ:=⟨[.ag [.i .i64,.i .i64,.i .i64]],[]⟩
def uC:List Ah:=[.ti,.ti,.ti]
def R67:List AP:=[⟨.i .i64,[],[.ti]⟩]
def n67:An:=.nd
theorem e67 (k:Nat)(y:Tup uC):EX Tryz.f67 A67 uC [] R67 n67 [] k y=gk k y.1 y.2.1 y.2.2:=by kernel_rfl
noncomputable def tY (k:Nat):Ao Tryz.prog:=CK 67 Tryz.func67 (e67 k)
noncomputable def nY (k:Nat)(x1:Int)(x2:Int)(x3:Int)(x4:Int):Option Int :=
(gk k x1 x2 x3).bind fun y1 =>
(gk k x1 x2 x3).bind fun y2 =>
Ai (y2 != 0) <|
some (IntKind.wrap .i64 ((IntKind.wrap .i64 ((IntKind.wrap .i64 ((IntKind.wrap .i64 ((mn (mx x4 1) 1048576)+y1)) - 1)).tdiv y2))+1))
def A65:AQ:=⟨[.ag [.i .i64,.i .i64,.i .i64],.i .i64],[]⟩
def np:List Ah:=[.ti,.ti,.ti,.ti]
def R65:List AP:=[⟨.i .i64,[],[.ti]⟩]
def n65:An:=.sq (.nd) (.sq (.nd) (.sq (.mk [] [0,0,2,7,15,0,38,127,255,511]) (.nd)))
theorem e65 (k:Nat)(y:Tup np):EX Tryz.f65 A65 np [] R65 n65 [tY k] k y=nY k y.1 y.2.1 y.2.2.1 y.2.2.2:=by kernel_rfl
noncomputable def C65 (k:Nat):Ao Tryz.prog:=CK 65 Tryz.func65 (e65 k)
noncomputable def ed (k:Nat)(x1:Int)(x2:Int)(x3:Int):Option Int :=
some (IntKind.wrap .i64 (x2 - 1))
def A20:AQ:=⟨[.ag [.i .i64,.i .i64,.i .i64]],[]⟩
def ua:List Ah:=[.ti,.ti,.ti]
def R20:List AP:=[⟨.i .i64,[],[.ti]⟩]
def n20:An:=.nd
theorem e20 (k:Nat)(y:Tup ua):EX Tryz.f20 A20 ua [] R20 n20 [] k y=ed k y.1 y.2.1 y.2.2:=by kernel_rfl
noncomputable def ni (k:Nat):Ao Tryz.prog:=CK 20 Tryz.func20 (e20 k)
noncomputable def nZ (k:Nat)(x1:Int)(x2:Int)(x3:Int):Option Int :=
(ed k x1 x2 x3).bind fun y1 =>
some (IntKind.wrap .i64 ((IntKind.wrap .i64 (x3 - 3)) * y1))
def A66:AQ:=⟨[.ag [.i .i64,.i .i64,.i .i64]],[]⟩
def tG:List Ah:=[.ti,.ti,.ti]
def R66:List AP:=[⟨.i .i64,[],[.ti]⟩]
def n66:An:=.sq (.nd) (.sq (.mk [] [0,1,3,0,8,31,63]) (.nd))
theorem e66 (k:Nat)(y:Tup tG):EX Tryz.f66 A66 tG [] R66 n66 [ni k] k y=nZ k y.1 y.2.1 y.2.2:=by kernel_rfl
noncomputable def C66 (k:Nat):Ao Tryz.prog:=CK 66 Tryz.func66 (e66 k)
noncomputable def ZP (k:Nat)(z6:(Int × Int)):Option ((Int × Int) ⊕ Int) :=
cond (decide (z6.2 < 8)) (
((cond ((z6.1.tmod 2) == 1) (
some (bits .xor .u32 (IntKind.wrap .u32 (z6.1.tdiv 2)) 3988292384)) (
some (IntKind.wrap .u32 (z6.1.tdiv 2))):Option Int)).bind fun y7 =>
some (.inl (y7,(IntKind.wrap .i64 (z6.2+1))))) (
some (.inr z6.1))
noncomputable def nx (k:Nat)(x1:Int)(x2:Int):Option Int :=
(AE (ZP k) k ((bits .xor .u32 x1 (IntKind.wrap .u32 x2)),0)).bind fun y8 =>
some y8
def A71:AQ:=⟨[.i .u32,.i .u8],[]⟩
def tJ:List Ah:=[.ti,.ti]
def R71:List AP:=[⟨.i .u32,[],[.ti]⟩]
def n71:An:=.sq (.nd) (.sq (.nd) (.sq (.sq (.nd) (.lp [] [] ⟨[(0,.i .u32),(5,.i .i64)],[]⟩ [.ti,.ti] [(2,⟨[(0,.i .u32)],[]⟩)] [[.ti]] (.sq (.nd) (.jn [5] [] [(0,⟨[(0,.i .u32)],[]⟩)] [[.ti]] (.nd) (.nd))))) (.nd)))
theorem e71 (k:Nat)(y:Tup tJ):EX Tryz.f71 A71 tJ [] R71 n71 [] k y=nx k y.1 y.2:=by kernel_rfl
noncomputable def C71 (k:Nat):Ao Tryz.prog:=CK 71 Tryz.func71 (e71 k)
noncomputable def VJ (k:Nat)(x1:ByteArray)(z8:(Int × Int)):Option ((Int × Int) ⊕ Int) :=
cond (decide (z8.2 < (x1.size:Int))) (
Ai (decide (0<=z8.2/\z8.2 < (x1.size:Int))) <|
(nx k z8.1 (bt x1 z8.2)).bind fun y9 =>
some (.inl (y9,(IntKind.wrap .i64 (z8.2+1))))) (
some (.inr z8.1))
noncomputable def me (k:Nat)(x1:ByteArray):Option Int :=
(AE (VJ k x1) k (4294967295,0)).bind fun y10 =>
some (IntKind.wrap .u32 (4294967295 - y10))
def A47:AQ:=⟨[.s],[]⟩
def uN:List Ah:=[.ts]
def R47:List AP:=[⟨.i .u32,[],[.ti]⟩]
def n47:An:=.sq (.nd) (.sq (.nd) (.sq (.sq (.nd) (.lp [0] [] ⟨[(3,.i .u32),(4,.i .i64)],[]⟩ [.ti,.ti] [(2,⟨[(3,.i .u32)],[]⟩)] [[.ti]] (.nd))) (.nd)))
theorem e47 (k:Nat)(y:Tup uN):EX Tryz.f47 A47 uN [] R47 n47 [C71 k] k y=me k y:=by kernel_rfl
noncomputable def tA (k:Nat):Ao Tryz.prog:=CK 47 Tryz.func47 (e47 k)
noncomputable def QO (k:Nat)(x1:Int)(x2:Int)(x3:Int)(x4:Int)(y5:(ByteArray × Int))(z24:(Int × (List BV))):Option ((Int × (List BV)) ⊕ (List BV)) :=
cond (decide (z24.1 < (y5.1.size:Int))) (
(gk k x1 x2 x3).bind fun y25 =>
Ai (Be (y5.1.size:Int) z24.1 (mn (IntKind.wrap .i64 (z24.1+y25)) (y5.1.size:Int))) <|
Ai (decide ((z24.2.length+[(2,x4,(IntKind.wrap .u32 (z24.2.length:Int)),(y5.1.extract z24.1.toNat ((mn (IntKind.wrap .i64 (z24.1+y25)) (y5.1.size:Int)).toNat)))].length) * 32<=140737488355328)) <|
(gk k x1 x2 x3).bind fun y26 =>
some (.inl ((IntKind.wrap .i64 (z24.1+y26)),(z24.2 ++ [(2,x4,(IntKind.wrap .u32 (z24.2.length:Int)),(y5.1.extract z24.1.toNat ((mn (IntKind.wrap .i64 (z24.1+y25)) (y5.1.size:Int)).toNat)))])))) (
some (.inr z24.2))
noncomputable def lQ (k:Nat)(x1:Int)(x2:Int)(x3:Int)(x4:Int)(x5:Int)(x6:Int)(x7:(List AY)):Option (Int ⊕ (Int × (List BV))) :=
(nb k x1 x2 x3).bind fun y3 =>
cond (!y3) (
some (.inl 1)) (
(nw k x7).bind fun y5 =>
cond (y5.2 != 0) (
some (.inl y5.2)) (
((cond (decide (x4<=x5)) (
some true) (
cond (decide (x6 < 1)) (
some true) (
cond (decide (x4 < x6)) (
some true) (
some (decide (2147483647 < x4))))):Option Bool)).bind fun y7 =>
cond y7 (
some (.inl 2)) (
(nY k x1 x2 x3 (y5.1.size:Int)).bind fun y12 =>
(nZ k x1 x2 x3).bind fun y13 =>
cond (decide (y13 < y12)) (
some (.inl 14)) (
(AE (QO k x1 x2 x3 x4 y5) k (0,([]:List BV))).bind fun y27 =>
(cR k x5).bind fun y33 =>
(cR k x6).bind fun y34 =>
Ai (decide (y33.size+y34.size<=9223372036854775807)) <|
(me k y5.1).bind fun y35 =>
(cR k y35).bind fun y36 =>
Ai (decide ((y33 ++ y34).size+y36.size<=9223372036854775807)) <|
(cR k (IntKind.wrap .u32 (y5.1.size:Int))).bind fun y37 =>
Ai (decide (((y33 ++ y34) ++ y36).size+y37.size<=9223372036854775807)) <|
Ai (decide ((y27.length+[(3,x4,(IntKind.wrap .u32 (y27.length:Int)),(((y33 ++ y34) ++ y36) ++ y37))].length) * 32<=140737488355328)) <|
some (.inr (0,(y27 ++ [(3,x4,(IntKind.wrap .u32 (y27.length:Int)),(((y33 ++ y34) ++ y36) ++ y37))])))))))
def A44:AQ:=⟨[.ag [.i .i64,.i .i64,.i .i64],.ag [.i .u32,.i .u32,.i .u32,.sl .u 1000000]],[(1000000,.ar 148 CF)]⟩
def tt:List Ah:=[.ti,.ti,.ti,.ti,.ti,.ti,.tl CF]
def R44:List AP:=[⟨.tp [.c (.slice none 0 0),.i .i64],[],[.ti]⟩,⟨.tp [.sl .u 500000,.i .i64],[(500000,.ar 54 DF)],[.ti,.tl DF]⟩]
def n44:An:=.sq (.nd) (.sq (.nd) (.sq (.nd) (.sq (.nd) (.sq (.jn [2,3,6] [2,3] [(0,⟨[(44,.b)],[]⟩)] [[.tb]] (.nd) (.nd)) (.sq (.sq (.mk [] [0,0,2,7,0,31,63]) (.nd)) (.sq (.nd) (.sq (.sq (.nd) (.lp [2,3,6] [2,3] ⟨[(8,.sl .n 302100),(9,.i .i64)],[(302100,.ar 54 DF)]⟩ [.ti,.tl DF] [(2,⟨[(8,.sl .n 302125)],[(302125,.ar 54 DF)]⟩)] [[.tl DF]] (.sq (.nd) (.sq (.mk [] [0,0,2,0,8,24,0,0,0,0,512,1792,0,4096,16128,32704,65534,131070,262143,524287]) (.nd))))) (.sq (.mk [] [0,1,3,0,8,31,63,0,191,447,1023,0,2048,6144,15295,32767,65535]) (.nd)))))))))
theorem e44 (k:Nat)(y:Tup tt):EX Tryz.f44 A44 tt [1000000] R44 n44 [C63 k,C64 k,C65 k,C66 k,tY k,rU k,tA k] k y=lQ k y.1 y.2.1 y.2.2.1 y.2.2.2.1 y.2.2.2.2.1 y.2.2.2.2.2.1 y.2.2.2.2.2.2:=by kernel_rfl
noncomputable def C44 (k:Nat):Ao Tryz.prog:=CK 44 Tryz.func44 (e44 k)
noncomputable def SL (k:Nat)(x1:Int)(x2:Int)(x3:Int)(x4:(List (Int × Int × Int × (List (Int × Bool × ByteArray)) × Int)))(z149:(Int × (List BV))):Option ((Int × (List BV)) ⊕ (List BV)) :=
((cond (decide (z149.1 < (x4.length:Int))) (
some (decide (z149.1 < 20))) (
some false):Option Bool)).bind fun y150 =>
cond y150 (
(((ix x4 z149.1).bind fun a151 =>
(ix x4 z149.1).bind fun a152 =>
cond ((a152.2.2.2.1.length:Int) == 0) (
(ix x4 z149.1).bind fun a153 =>
(ix x4 z149.1).bind fun a154 =>
Ai ((IntKind.wrap .u32 ((IntKind.wrap .u32 (1+(a151.1.tmod 12)))+1)) != 0) <|
(cR k (a154.2.2.1.tmod (IntKind.wrap .u32 ((IntKind.wrap .u32 (1+(a151.1.tmod 12)))+1)))).bind fun y155 =>
Ai (decide ((z149.2.length+[(4,(IntKind.wrap .u32 (1+(a151.1.tmod 12))),(a153.2.1.tmod 3),y155)].length) * 32<=140737488355328)) <|
some (z149.2 ++ [(4,(IntKind.wrap .u32 (1+(a151.1.tmod 12))),(a153.2.1.tmod 3),y155)])) (
(((ix x4 z149.1).bind fun a156 =>
Ai ((IntKind.wrap .u32 (1+(a151.1.tmod 12))) != 0) <|
(ix x4 z149.1).bind fun a157 =>
Ai ((IntKind.wrap .u32 (1+(a151.1.tmod 12))) != 0) <|
(ix x4 z149.1).bind fun a158 =>
(kQ k a158.2.2.2.1 3).bind fun y159 =>
(lQ k x1 x2 x3 (IntKind.wrap .u32 (1+(a151.1.tmod 12))) (a156.2.1.tmod (IntKind.wrap .u32 (1+(a151.1.tmod 12)))) (IntKind.wrap .u32 (1+(a157.2.2.1.tmod (IntKind.wrap .u32 (1+(a151.1.tmod 12)))))) y159).bind fun y160 =>
BN (fun y161 =>
some ([]:List BV)) (fun y162 =>
some y162.2) y160:Option (List BV))).bind fun y163 =>
(((((ix x4 z149.1).bind fun a164 =>
cond ((a164.2.2.2.2.tmod 5) == 4) (
some (decide (0 < (y163.length:Int)))) (
some false):Option Bool)).bind fun y165 =>
cond y165 (
Ai (Be (y163.length:Int) 0 (IntKind.wrap .i64 ((y163.length:Int) - 1))) <|
some ((y163.drop 0).take (((IntKind.wrap .i64 ((y163.length:Int) - 1)).toNat) - 0))) (
some y163):Option (List BV))).bind fun y166 =>
Ai (decide ((z149.2.length+y166.length) * 32<=140737488355328)) <|
some (z149.2 ++ y166)):Option (List BV))).bind fun y167 =>
some (.inl ((IntKind.wrap .i64 (z149.1+1)),y167))) (
some (.inr z149.2))
noncomputable def Lw (k:Nat)(x5:(List Int))(z199:((List BV) × Int × Int × Int × Int × (List Ax))):Option (((List BV) × Int × Int × Int × Int × (List Ax)) ⊕ (Int × Int × Int × (List Ax))) :=
cond (decide (z199.2.1 < z199.2.2.2.2.1)) (
((cond (decide (z199.2.1 < (x5.length:Int))) (
(ix x5 z199.2.1).bind fun a200 =>
some (z199.2.1,(a200.tmod 9))) (
cond (decide (0 < (z199.1.length:Int))) (
some (z199.2.1,(IntKind.wrap .u32 (IntKind.wrap .i64 (z199.2.1+10))))) (
some (z199.2.1,0))):Option (Int × Int))).bind fun y201 =>
((cond (decide (0 < y201.2)) (
(ed k z199.2.2.1 z199.2.2.2.1 z199.2.2.2.2.1).bind fun y202 =>
Ai (Be (z199.1.length:Int) 0 (mn (z199.1.length:Int) y202)) <|
Ai (decide ((([]:List BV).length+(cut z199.1 0 (mn (z199.1.length:Int) y202)).length) * 32<=140737488355328)) <|
Ai (Be (z199.1.length:Int) (mn (z199.1.length:Int) y202) (z199.1.length:Int)) <|
some ((cut z199.1 (mn (z199.1.length:Int) y202) (z199.1.length:Int)),y201.1,y201.2,(([]:List BV) ++ (cut z199.1 0 (mn (z199.1.length:Int) y202))))) (
some (z199.1,y201.1,y201.2,([]:List BV))):Option ((List BV) × Int × Int × (List BV)))).bind fun y203 =>
Ai (decide ((z199.2.2.2.2.2.length+[(y203.2.1,y203.2.2.1,y203.2.2.2,true)].length) * 48<=140737488355328)) <|
some (.inl (y203.1,(IntKind.wrap .i64 (z199.2.1+1)),z199.2.2.1,z199.2.2.2.1,z199.2.2.2.2.1,(z199.2.2.2.2.2 ++ [(y203.2.1,y203.2.2.1,y203.2.2.2,true)])))) (
some (.inr (z199.2.2.1,z199.2.2.2.1,z199.2.2.2.2.1,z199.2.2.2.2.2)))
noncomputable def je (k:Nat)(x1:Int)(x2:Int)(x3:Int)(x4:(List (Int × Int × Int × (List (Int × Bool × ByteArray)) × Int)))(x5:(List Int)):Option (List Ax) :=
(AE (SL k x1 x2 x3 x4) k (0,([]:List BV))).bind fun y168 =>
(AE (Lw k x5) k (y168,0,x1,x2,x3,([]:List Ax))).bind fun y204 =>
some y204.2.2.2
def A15:AQ:=⟨[.ag [.i .i64,.i .i64,.i .i64],.fz .u eR,.fz .u (.int .u32 .nil)],[]⟩
def uj:List Ah:=[.ti,.ti,.ti,.tl eR,.tl (.int .u32 .nil)]
def R15:List AP:=[⟨.sl .u 500000,[(500000,.ar 52 Ck)],[.tl Ck]⟩]
def n15:An:=.sq (.nd) (.sq (.nd) (.sq (.sq (.nd) (.lp [1,2,3] [3] ⟨[(7,.sl .n 300400),(8,.i .i64)],[(300400,.ar 54 DF)]⟩ [.ti,.tl DF] [(2,⟨[(7,.sl .n 300425)],[(300425,.ar 54 DF)]⟩)] [[.tl DF]] (.sq (.jn [7,8] [300400] [(0,⟨[(23,.b)],[]⟩)] [[.tb]] (.nd) (.nd)) (.jn [8] [] [(0,⟨[(7,.sl .n 300750)],[(300750,.ar 54 DF)]⟩)] [[.tl DF]] (.sq (.nd) (.sq (.sq (.nd) (.sq (.sq (.mk [] [0,0,0,0,12,28,60,124,0,0,768,1792,3840,0,8192,32512,65280,131070,262142,524287,1048575]) (.nd)) (.nd))) (.jn [7] [300400] [(0,⟨[(10,.sl .u 301350)],[(301350,.ar 54 DF)]⟩)] [[.tl DF]] (.mk [] [0,0,0,0,12,28,60,0,252,0,0,1536,3584,7680,0,32256,65024,0,0,393216,917504,1966080,4063232,8388606,16777215,33554431,67108863,67108863,134217727,536870911]) (.jn [7] [300400] [(0,⟨[(10,.fz .u DF)],[]⟩)] [[.tl DF]] (.jn [10] [301350] [(0,⟨[(99,.b)],[]⟩)] [[.tb]] (.nd) (.nd)) (.nd))))) (.nd))))) (.sq (.nd) (.sq (.sq (.nd) (.lp [2,3] [] ⟨[(7,.fz .u DF),(12,.sl .n 302150),(13,.i .i64)],[(3,.bx 23 [.i .i64,.i .i64,.i .i64]),(302150,.ar 52 Ck)]⟩ [.tl DF,.ti,.ti,.ti,.ti,.tl Ck] [(4,⟨[(12,.sl .n 302175)],[(3,.bx 23 [.i .i64,.i .i64,.i .i64]),(302175,.ar 52 Ck)]⟩)] [[.ti,.ti,.ti,.tl Ck]] (.sq (.nd) (.sq (.sq (.nd) (.jn [7,12,13,14] [3,302150] [(0,⟨[],[(14,.bx 52 [.i .i64,.i .u32,.c (.slice none 0 0),.lb true])]⟩)] [[.ti,.ti]] (.nd) (.jn [12,13,14] [3,302150] [(0,⟨[(7,.fz .u DF)],[(14,.bx 52 [.i .i64,.i .u32,.sl .n 303200,.lb true]),(303200,.ar 54 DF)]⟩)] [[.tl DF,.ti,.ti,.tl DF]] (.sq (.nd) (.sq (.sq (.nd) (.mk [] [0,0,3,7,0,0,48,15,143,511])) (.nd))) (.fr [(2,303200)])))) (.nd))))) (.nd)))))
theorem e15 (k:Nat)(y:Tup uj):EX Tryz.f15 A15 uj [] R15 n15 [rU k,C45 k,C44 k,ni k] k y=je k y.1 y.2.1 y.2.2.1 y.2.2.2.1 y.2.2.2.2:=by kernel_rfl
noncomputable def sV (k:Nat):Ao Tryz.prog:=CK 15 Tryz.func15 (e15 k)
noncomputable def eO (k:Nat)(x1:Int)(x2:Int)(x3:(List BV))(x4:Bool)(x5:Int)(x6:Int)(x7:(List BV))(x8:Bool):Option Int :=
cond (decide (x2 < x6)) (
some (-1)) (
some 1)
def A56:AQ:=⟨[.ag [.i .i64,.i .u32,.fz .u DF,.b],.ag [.i .i64,.i .u32,.fz .u DF,.b]],[]⟩
def tZ:List Ah:=[.ti,.ti,.tl DF,.tb,.ti,.ti,.tl DF,.tb]
def R56:List AP:=[⟨.i .i64,[],[.ti]⟩]
def n56:An:=.nd
theorem e56 (k:Nat)(y:Tup tZ):EX Tryz.f56 A56 tZ [] R56 n56 [] k y=eO k y.1 y.2.1 y.2.2.1 y.2.2.2.1 y.2.2.2.2.1 y.2.2.2.2.2.1 y.2.2.2.2.2.2.1 y.2.2.2.2.2.2.2:=by kernel_rfl
noncomputable def C56 (k:Nat):Ao Tryz.prog:=CK 56 Tryz.func56 (e56 k)
noncomputable def mD (k:Nat)(x1:(List Ax)):Option (List Ax) :=
Lp (fun a b:Ax=>eO k a.1 a.2.1 a.2.2.1 a.2.2.2 b.1 b.2.1 b.2.2.1 b.2.2.2) x1
def A55:AQ:=⟨[.sl .u 1000000,.c (.func (.func 56) #[] #[])],[(1000000,.ar 52 Ck)]⟩
def h55:List Ah:=[.tl Ck]
def R55:List AP:=[⟨.tp [],[(1000000,.ar 52 Ck)],[.tl Ck]⟩]
noncomputable def tW (k:Nat):Ao Tryz.prog:=⟨55,Tryz.f55,Tryz.func55,by kernel_rfl,by kernel_rfl,A55,h55,[],R55,fun y=>mD k y,fun y r h=>by
 have h2:Lp (fun a b:(Int × Int × (List (Int × Int × Int × ByteArray)) × Bool)=>eO k a.1 a.2.1 a.2.2.1 a.2.2.2 b.1 b.2.1 b.2.2.1 b.2.2.2) y=some r:=h
 exact MJ.Xh (ρ:=Tryz.laysSlF06_f55_ren) (r:=(.int .i64 (.int .u32 (.sl (.int .i64 (.int .u32 (.int .u32 (.str .nil)))) (.bool .nil))))) Tryz.laysSlF06_f55 Tryz.isAgg52 Tryz.sizeOf52 (by decide) (enters Tryz.func56 (by kernel_rfl) (by kernel_rfl)) (fun a b n g=>@Ao.ok ⟨true⟩ _ (@C56 ⟨true⟩ k) (a.1,a.2.1,a.2.2.1,a.2.2.2,b.1,b.2.1,b.2.2.1,b.2.2.2) n g) 52 (by decide) h2⟩
noncomputable def VQ (k:Nat)(x4:(List Ax))(z24:(Int × (List (Int × Ax)))):Option ((Int × (List (Int × Ax))) ⊕ (List (Int × Ax))) :=
cond (decide (z24.1 < (x4.length:Int))) (
(((ix x4 z24.1).bind fun a25 =>
(some ((Ae DQ z24.2 a25.2.1).getD (0,0,([]:List BV),false),(Ae DQ z24.2 a25.2.1).isSome)).bind fun a26 =>
((cond (a25.2.1 != 0) (
cond (!a26.2) (
some true) (
some (decide (a26.1.1<=a25.1)))) (
some false):Option Bool)).bind fun y27 =>
cond y27 (
some (Bb z24.2 a25.2.1 (a25.1,a25.2.1,a25.2.2.1,a25.2.2.2))) (
some z24.2):Option (List (Int × Ax)))).bind fun y28 =>
some (.inl ((IntKind.wrap .i64 (z24.1+1)),y28))) (
some (.inr z24.2))
noncomputable def Zx (k:Nat){R:Type}(z40:(((List (Int × Ax)) × (List (Int × Ax))) × (List Ax)))(Kin:(((List (Int × Ax)) × (List (Int × Ax))) × (List Ax))->Option R)(Kout:((List (Int × Ax)) × (List Ax))->Option R):Option R :=
cond z40.1.2.isEmpty (
Kout (z40.1.1,z40.2)) (
JB z40.1.2 fun j41=>fun a42 =>
Ai (decide ((z40.2.length+[(a42.2.1,a42.2.2.1,a42.2.2.2.1,a42.2.2.2.2)].length) * 48<=140737488355328)) <|
Kin ((z40.1.1,(List.eraseIdx z40.1.2 j41)),(z40.2 ++ [(a42.2.1,a42.2.2.1,a42.2.2.2.1,a42.2.2.2.2)])))
noncomputable def nt (k:Nat)(x1:Int)(x2:Int)(x3:Int)(x4:(List Ax)):Option (Int × Int × Int × (List Ax)) :=
(AE (VQ k x4) k (0,([]:List (Int × Ax)))).bind fun y29 =>
EN (Zx k) k ((y29,y29),([]:List Ax)) fun y43 =>
(mD k y43.2).bind fun y45 =>
some (x1,x2,x3,y45)
def A28:AQ:=⟨[.ag [.i .i64,.i .i64,.i .i64],.fz .u Ck],[]⟩
def uZ:List Ah:=[.ti,.ti,.ti,.tl Ck]
def R28:List AP:=[⟨.ag [.i .i64,.i .i64,.i .i64,.fz .u Ck],[],[.ti,.ti,.ti,.tl Ck]⟩]
def n28:An:=.sq (.nd) (.sq (.nd) (.sq (.sq (.nd) (.lp [2,4,5,14,15] [2,4] ⟨[(16,.i .i64)],[(13,.mp ⟨(.i .u32),true,Ck⟩)]⟩ [.ti,.tm ⟨(.i .u32),true,Ck⟩] [(2,⟨[],[(13,.mp ⟨(.i .u32),true,Ck⟩)]⟩)] [[.tm ⟨(.i .u32),true,Ck⟩]] (.sq (.nd) (.sq (.nd) (.jn [16] [] [(0,⟨[],[(13,.mp ⟨(.i .u32),true,Ck⟩)]⟩)] [[.tm ⟨(.i .u32),true,Ck⟩]] (.sq (.nd) (.sq (.nd) (.jn [7] [7,13] [(0,⟨[(40,.b)],[]⟩)] [[.tb]] (.nd) (.nd)))) (.nd)))))) (.sq (.nd) (.sq (.sq (.nd) (.lc [2,4,47] [2,4,47] ⟨[(10,.sl .n 301650)],[(13,.mq ⟨(.i .u32),true,Ck⟩ 47),(301650,.ar 52 Ck)]⟩ [.tq ⟨(.i .u32),true,Ck⟩,.tl Ck] [(4,⟨[(10,.sl .n 301675)],[(13,.mp ⟨(.i .u32),true,Ck⟩),(301675,.ar 52 Ck)]⟩)] [[.tm ⟨(.i .u32),true,Ck⟩,.tl Ck]] (.nd))) (.nd)))))
theorem e28 (k:Nat)(y:Tup uZ):EX Tryz.f28 A28 uZ [] R28 n28 [tW k] k y=nt k y.1 y.2.1 y.2.2.1 y.2.2.2:=by kernel_rfl
noncomputable def C28 (k:Nat):Ao Tryz.prog:=CK 28 Tryz.func28 (e28 k)
noncomputable def dI (k:Nat)(x1:ByteArray)(x2:Int):Option (Int × Bool) :=
((cond (decide (x2 < 0)) (
some true) (
cond (decide ((x1.size:Int) < x2)) (
some true) (
some (decide ((IntKind.wrap .i64 ((x1.size:Int) - x2)) < 4)))):Option Bool)).bind fun y2 =>
cond y2 (
some (0,false)) (
Ai (Be (x1.size:Int) x2 (x1.size:Int)) <|
Ai (decide (0<=(0:Int)/\(0:Int) < ((x1.extract x2.toNat ((x1.size:Int).toNat)).size:Int))) <|
Ai (decide (0<=(1:Int)/\(1:Int) < ((x1.extract x2.toNat ((x1.size:Int).toNat)).size:Int))) <|
Ai (decide (0<=(2:Int)/\(2:Int) < ((x1.extract x2.toNat ((x1.size:Int).toNat)).size:Int))) <|
Ai (decide (0<=(3:Int)/\(3:Int) < ((x1.extract x2.toNat ((x1.size:Int).toNat)).size:Int))) <|
some ((bits .or .u32 (bits .or .u32 (bits .or .u32 (IntKind.wrap .u32 (bt (x1.extract x2.toNat ((x1.size:Int).toNat)) 0)) (IntKind.wrap .u32 ((IntKind.wrap .u32 (bt (x1.extract x2.toNat ((x1.size:Int).toNat)) 1)) * 2 ^ 8))) (IntKind.wrap .u32 ((IntKind.wrap .u32 (bt (x1.extract x2.toNat ((x1.size:Int).toNat)) 2)) * 2 ^ 16))) (IntKind.wrap .u32 ((IntKind.wrap .u32 (bt (x1.extract x2.toNat ((x1.size:Int).toNat)) 3)) * 2 ^ 24))),true))
def qP:AQ:=⟨[.s,.i .i64],[]⟩
def nK:List Ah:=[.ts,.ti]
def rW:List AP:=[⟨.tp [.i .u32,.b],[],[.ti,.tb]⟩]
def n149:An:=.sq (.nd) (.sq (.jn [0,1] [] [(0,⟨[(20,.b)],[]⟩)] [[.tb]] (.nd) (.nd)) (.sq (.nd) (.sq (.mk [] [0,1,3,0,8,24,56,127,0,256,768,1792,4095,0,8192,24576,57344,131071,262143,524287]) (.nd))))
theorem qb (k:Nat)(y:Tup nK):EX Tryz.f149 qP nK [] rW n149 [] k y=dI k y.1 y.2:=by kernel_rfl
noncomputable def oQ (k:Nat):Ao Tryz.prog:=CK 149 Tryz.func149 (qb k)
noncomputable def XA (k:Nat)(x1:ByteArray)(x2:Int):Option Int :=
(dI k x1 (IntKind.wrap .i64 (4 * x2))).bind fun y2 =>
some y2.1
def A97:AQ:=⟨[.s,.i .i64],[]⟩
def uJ:List Ah:=[.ts,.ti]
def R97:List AP:=[⟨.i .u32,[],[.ti]⟩]
def n97:An:=.nd
theorem e97 (k:Nat)(y:Tup uJ):EX Tryz.f97 A97 uJ [] R97 n97 [oQ k] k y=XA k y.1 y.2:=by kernel_rfl
noncomputable def C97 (k:Nat):Ao Tryz.prog:=CK 97 Tryz.func97 (e97 k)
noncomputable def eE (k:Nat)(x1:Int)(x2:Int)(x3:Int)(x4:ByteArray):Option (Int ⊕ (Int × Int × Int) ⊕ (Int × Int × ByteArray × Int) ⊕ (Int × Int × Int × Int × Int × Int × Int) ⊕ (Int × Int × Int × Int)) :=
((cond (decide (x2 < 1)) (
some true) (
some (decide (2147483647 < x2))):Option Bool)).bind fun y2 =>
cond y2 (
some (.inl 2)) (
((((cond (x1 == 1) (
some (x4.toList == (⟨#[]⟩:ByteArray).toList)) (
some false):Option Bool)).bind fun y18 =>
cond y18 (
some (.inr (.inl (x2,x3)))) (
((cond (x1 == 2) (
some (!(x4.toList == (⟨#[]⟩:ByteArray).toList))) (
some false):Option Bool)).bind fun y19 =>
cond y19 (
some (.inr (.inr (.inl (x2,x3,x4))))) (
((cond (x1 == 3) (
cond ((x4.size:Int) == 16) (
some (x3 != 0)) (
some false)) (
some false):Option Bool)).bind fun y20 =>
cond y20 (
(XA k x4 0).bind fun y21 =>
(XA k x4 1).bind fun y22 =>
(XA k x4 2).bind fun y23 =>
(XA k x4 3).bind fun y24 =>
((cond (decide (y21 < x2)) (
cond (decide (1<=y22)) (
cond (decide (y22<=x2)) (
some (y24 != 0)) (
some false)) (
some false)) (
some false):Option Bool)).bind fun y25 =>
cond y25 (
some (.inr (.inr (.inr (.inl (x2,x3,y21,y22,y23,y24)))))) (
some (.inl ()))) (
((cond (x1 == 4) (
some ((x4.size:Int) == 4)) (
some false):Option Bool)).bind fun y26 =>
cond y26 (
(XA k x4 0).bind fun y27 =>
cond (decide (y27<=x2)) (
some (.inr (.inr (.inr (.inr (x2,x3,y27)))))) (
some (.inl ()))) (
some (.inl ()))))):Option Wp)).bind fun y28 =>
BN (fun y29 =>
some (.inl 2)) (fun y30 =>
BN (fun y31 =>
some (.inr (.inl (y31.1,y31.2,0)))) (fun y32 =>
BN (fun y33 =>
some (.inr (.inr (.inl (y33.1,y33.2.1,y33.2.2,0))))) (fun y34 =>
BN (fun y35 =>
some (.inr (.inr (.inr (.inl (y35.1,y35.2.1,y35.2.2.1,y35.2.2.2.1,y35.2.2.2.2.1,y35.2.2.2.2.2,0)))))) (fun y36 =>
some (.inr (.inr (.inr (.inr (y36.1,y36.2.1,y36.2.2,0)))))) y34) y32) y30) y28)
def A58:AQ:=⟨[.ag [.i .i64,.i .u32,.i .u32,.s]],[]⟩
def uV:List Ah:=[.ti,.ti,.ti,.ts]
def R58:List AP:=[⟨.tp [.c (.nilIface),.i .i64],[],[.ti]⟩,⟨.tp [.Aq 197 (.ag [.i .u32,.i .u32]),.i .i64],[],[.ti,.ti,.ti]⟩,⟨.tp [.Aq 199 (.ag [.i .u32,.i .u32,.s]),.i .i64],[],[.ti,.ti,.ts,.ti]⟩,⟨.tp [.Aq 192 (.ag [.i .u32,.i .u32,.i .u32,.i .u32,.i .u32,.i .u32]),.i .i64],[],[.ti,.ti,.ti,.ti,.ti,.ti,.ti]⟩,⟨.tp [.Aq 78 (.ag [.i .u32,.i .u32,.i .u32]),.i .i64],[],[.ti,.ti,.ti,.ti]⟩]
def n58:An:=.sq (.nd) (.sq (.jn [1] [1] [(0,⟨[(14,.b)],[]⟩)] [[.tb]] (.nd) (.nd)) (.jn [] [] [(0,⟨[],[]⟩),(1,⟨[(2,.Aq 197 (.ag [.i .u32,.i .u32])),(3,.li .i64 0)],[]⟩),(1,⟨[(2,.Aq 199 (.ag [.i .u32,.i .u32,.s])),(3,.li .i64 0)],[]⟩),(1,⟨[(2,.Aq 192 (.ag [.i .u32,.i .u32,.i .u32,.i .u32,.i .u32,.i .u32])),(3,.li .i64 0)],[]⟩),(1,⟨[(2,.Aq 78 (.ag [.i .u32,.i .u32,.i .u32])),(3,.li .i64 0)],[]⟩)] [[],[.ti,.ti],[.ti,.ti,.ts],[.ti,.ti,.ti,.ti,.ti,.ti],[.ti,.ti,.ti]] (.sq (.nd) (.jn [1,4] [1] [(0,⟨[(17,.b)],[]⟩)] [[.tb]] (.nd) (.sq (.nd) (.jn [1,4] [1] [(0,⟨[(31,.b)],[]⟩)] [[.tb]] (.nd) (.sq (.nd) (.jn [1,4] [1] [(0,⟨[(46,.b)],[]⟩)] [[.tb]] (.nd) (.sq (.sq (.mk [] [0,1,0,4,0,16,0,112,0,496,0,2032,4095,0,16383]) (.jn [5] [5] [(0,⟨[(94,.b)],[]⟩)] [[.tb]] (.nd) (.nd))) (.jn [1,4] [1] [(0,⟨[(97,.b)],[]⟩)] [[.tb]] (.nd) (.sq (.sq (.mk [] [0,1,0,4,0,16,63,0,255]) (.nd)) (.nd)))))))))) (.nd)))
theorem e58 (k:Nat)(y:Tup uV):EX Tryz.f58 A58 uV [] R58 n58 [C97 k] k y=eE k y.1 y.2.1 y.2.2.1 y.2.2.2:=by kernel_rfl
noncomputable def nz (k:Nat):Ao Tryz.prog:=CK 58 Tryz.func58 (e58 k)
noncomputable def dG (k:Nat)(x1:Int)(x2:Int)(x3:Int):Option Bool :=
cond (decide (32<=x1)) (
cond (decide (x1<=128)) (
cond (decide (3<=x2)) (
cond (decide (x2<=10)) (
cond (decide (4<=x3)) (
some (decide (x3<=12))) (
some false)) (
some false)) (
some false)) (
some false)) (
some false)
def qx:AQ:=⟨[.ag [.i .i64,.i .i64,.i .i64]],[]⟩
def nS:List Ah:=[.ti,.ti,.ti]
def qV:List AP:=[⟨.b,[],[.tb]⟩]
def n141:An:=.nd
theorem oe (k:Nat)(y:Tup nS):EX Tryz.f141 qx nS [] qV n141 [] k y=dG k y.1 y.2.1 y.2.2:=by kernel_rfl
noncomputable def qf (k:Nat):Ao Tryz.prog:=CK 141 Tryz.func141 (oe k)
noncomputable def mC (k:Nat)(x1:Int)(x2:Int)(x3:Int):Option Int :=
(dG k x1 x2 x3).bind fun y3 =>
cond (!y3) (
some 0) (
some (IntKind.wrap .i64 (x2 - 1)))
def A93:AQ:=⟨[.ag [.i .i64,.i .i64,.i .i64]],[]⟩
def uv:List Ah:=[.ti,.ti,.ti]
def R93:List AP:=[⟨.i .i64,[],[.ti]⟩]
def n93:An:=.nd
theorem e93 (k:Nat)(y:Tup uv):EX Tryz.f93 A93 uv [] R93 n93 [qf k] k y=mC k y.1 y.2.1 y.2.2:=by kernel_rfl
noncomputable def C93 (k:Nat):Ao Tryz.prog:=CK 93 Tryz.func93 (e93 k)
noncomputable def lV (k:Nat)(z48:(Int × Int × (List BV))):Option ((Int × Int × (List BV)) ⊕ (List BV)) :=
cond (decide (z48.1 < z48.2.1)) (
(ix z48.2.2 z48.2.1).bind fun a49 =>
(z48.2.2[z48.2.1.toNat]?).bind fun a50 =>
(ix z48.2.2 z48.1).bind fun a51 =>
(z48.2.2[z48.1.toNat]?).bind fun a52 =>
(ix z48.2.2 z48.1).bind fun a53 =>
((z48.2.2[z48.1.toNat]?).bind fun a54=>some (a50.1,a50.2.1,a50.2.2.1,a50.2.2.2)).bind fun a55 =>
(ix (z48.2.2.set z48.1.toNat a55) z48.2.1).bind fun a56 =>
(((z48.2.2.set z48.1.toNat a55)[z48.2.1.toNat]?).bind fun a57=>some (a52.1,a52.2.1,a52.2.2.1,a52.2.2.2)).bind fun a58 =>
some (.inl ((IntKind.wrap .i64 (z48.1+1)),(IntKind.wrap .i64 (z48.2.1 - 1)),((z48.2.2.set z48.1.toNat a55).set z48.2.1.toNat a58)))) (
some (.inr z48.2.2))
noncomputable def oB (k:Nat)(x1:(List BV)):Option (List BV) :=
(AE (lV k) k (0,(IntKind.wrap .i64 ((x1.length:Int) - 1)),x1)).bind fun y59 =>
some y59
def A94:AQ:=⟨[.sl .u 1000000],[(1000000,.ar 54 DF)]⟩
def tH:List Ah:=[.tl DF]
def R94:List AP:=[⟨.tp [],[(1000000,.ar 54 DF)],[.tl DF]⟩]
def n94:An:=.sq (.nd) (.lp [0] [] ⟨[(2,.i .i64),(3,.i .i64)],[(1000000,.ar 54 DF)]⟩ [.ti,.ti,.tl DF] [(2,⟨[],[(1000000,.ar 54 DF)]⟩)] [[.tl DF]] (.sq (.nd) (.sq (.mk [] [0,0,0,0,0,0,48,112,0,0,768,1792,4083,8179,16383,32767]) (.nd))))
theorem e94 (k:Nat)(y:Tup tH):EX Tryz.f94 A94 tH [] R94 n94 [] k y=oB k y:=by kernel_rfl
noncomputable def C94 (k:Nat):Ao Tryz.prog:=CK 94 Tryz.func94 (e94 k)
noncomputable def mE (k:Nat)(z48:(Int × Int × (List (Int × Int)))):Option ((Int × Int × (List (Int × Int))) ⊕ (List (Int × Int))) :=
cond (decide (z48.1 < z48.2.1)) (
(ix z48.2.2 z48.2.1).bind fun a49 =>
(z48.2.2[z48.2.1.toNat]?).bind fun a50 =>
(ix z48.2.2 z48.1).bind fun a51 =>
(z48.2.2[z48.1.toNat]?).bind fun a52 =>
(ix z48.2.2 z48.1).bind fun a53 =>
((z48.2.2[z48.1.toNat]?).bind fun a54=>some (a50.1,a50.2)).bind fun a55 =>
(ix (z48.2.2.set z48.1.toNat a55) z48.2.1).bind fun a56 =>
(((z48.2.2.set z48.1.toNat a55)[z48.2.1.toNat]?).bind fun a57=>some (a52.1,a52.2)).bind fun a58 =>
some (.inl ((IntKind.wrap .i64 (z48.1+1)),(IntKind.wrap .i64 (z48.2.1 - 1)),((z48.2.2.set z48.1.toNat a55).set z48.2.1.toNat a58)))) (
some (.inr z48.2.2))
noncomputable def nc (k:Nat)(x1:(List (Int × Int))):Option (List (Int × Int)) :=
(AE (mE k) k (0,(IntKind.wrap .i64 ((x1.length:Int) - 1)),x1)).bind fun y59 =>
some y59
def A95:AQ:=⟨[.sl .u 1000000],[(1000000,.ar 50 Db)]⟩
def tM:List Ah:=[.tl Db]
def R95:List AP:=[⟨.tp [],[(1000000,.ar 50 Db)],[.tl Db]⟩]
def n95:An:=.sq (.nd) (.lp [0] [] ⟨[(2,.i .i64),(3,.i .i64)],[(1000000,.ar 50 Db)]⟩ [.ti,.ti,.tl Db] [(2,⟨[],[(1000000,.ar 50 Db)]⟩)] [[.tl Db]] (.sq (.nd) (.sq (.mk [] [0,0,0,0,0,0,48,112,0,0,768,1792,4083,8179,16383,32767]) (.nd))))
theorem e95 (k:Nat)(y:Tup tM):EX Tryz.f95 A95 tM [] R95 n95 [] k y=nc k y:=by kernel_rfl
noncomputable def C95 (k:Nat):Ao Tryz.prog:=CK 95 Tryz.func95 (e95 k)
noncomputable def mI (k:Nat):Option (Int × Int × Int × Int × Int × Int × Bool) :=
some (0,0,0,0,0,0,false)
def qA:AQ:=⟨[.c (.nilIface)],[]⟩
def mT:List Ah:=[]
def qy:List AP:=[⟨.tp [.ag [.i .u32,.i .u32,.i .u32,.i .u32,.i .u32,.i .u32],.b],[],[.ti,.ti,.ti,.ti,.ti,.ti,.tb]⟩]
def n142:An:=.nd
theorem qp (k:Nat)(y:Tup mT):EX Tryz.f142 qA mT [] qy n142 [] k y=mI k:=by kernel_rfl
noncomputable def qh (k:Nat):Ao Tryz.prog:=CK 142 Tryz.func142 (qp k)
noncomputable def kx (k:Nat):Option (Int × Int × ByteArray × Bool) :=
some (0,0,ByteArray.empty,false)
def pZ:AQ:=⟨[.c (.nilIface)],[]⟩
def lD:List Ah:=[]
def ou:List AP:=[⟨.tp [.ag [.i .u32,.i .u32,.s],.b],[],[.ti,.ti,.ts,.tb]⟩]
def n143:An:=.nd
theorem pd (k:Nat)(y:Tup lD):EX Tryz.f143 pZ lD [] ou n143 [] k y=kx k:=by kernel_rfl
noncomputable def oR (k:Nat):Ao Tryz.prog:=CK 143 Tryz.func143 (pd k)
noncomputable def gF (k:Nat)(x1:(List Int)):Option Unit :=
some ()
def sZ:AQ:=⟨[.pt 1000000 0],[(1000000,.bx 252 [.sp 1000000,.sl .u 1000001]),(1000001,.ar 5 Fi)]⟩
def qZ:List Ah:=[.tl Fi]
def qD:List AP:=[⟨.tp [],[],[]⟩]
noncomputable def qk (k:Nat):Ao Tryz.prog:=⟨175,Tryz.f175,Tryz.func175,by kernel_rfl,by kernel_rfl,sZ,qZ,[1000000,1000001],qD,fun y=>gF k y,fun y r h=>by
 have h2:some ()=some r:=h
 cases h2
 exact MJ.Wj Tryz.bld_fresh Tryz.bld_used _ _⟩
noncomputable def Sk (k:Nat)(x1:ByteArray)(x2:(List Int)):Option (Int × (List Int)) :=
(gF k x2).bind fun y2 =>
Ai (decide (x2.length+x1.size<=140737488355328)) <|
some ((x1.size:Int),(x2 ++ (AZ x1)))
def rN:AQ:=⟨[.pt 1000000 0,.s],[(1000000,.bx 252 [.sp 1000000,.sl .u 1000001]),(1000001,.ar 5 Fi)]⟩
def nC:List Ah:=[.ts,.tl Fi]
def rL:List AP:=[⟨.tp [.i .i64,.c (.nilIface)],[(1000000,.bx 252 [.sp 1000000,.sl .u 500000]),(1000001,.gone),(500000,.ar 5 Fi)],[.ti,.tl Fi]⟩]
def n144:An:=.nd
theorem oT (k:Nat)(y:Tup nC):EX Tryz.f144 rN nC [] rL n144 [qk k] k y=Sk k y.1 y.2:=by kernel_rfl
noncomputable def ru (k:Nat):Ao Tryz.prog:=CK 144 Tryz.func144 (oT k)
noncomputable def Xq (k:Nat)(x1:Int)(x2:Int):Option (Int × Int × ByteArray × Bool) :=
some (0,0,ByteArray.empty,false)
def iq:AQ:=⟨[.Aq 197 (.ag [.i .u32,.i .u32])],[]⟩
def Xz:List Ah:=[.ti,.ti]
def jU:List AP:=[⟨.tp [.ag [.i .u32,.i .u32,.s],.b],[],[.ti,.ti,.ts,.tb]⟩]
def iP:An:=.nd
theorem iW (k:Nat)(y:Tup Xz):EX Tryz.f143 iq Xz [] jU iP [] k y=Xq k y.1 y.2:=by kernel_rfl
noncomputable def gY (k:Nat):Ao Tryz.prog:=CK 143 Tryz.func143 (iW k)
noncomputable def Us (k:Nat)(x1:Int)(x2:Int)(x3:ByteArray):Option (Int × Int × ByteArray × Bool) :=
some (x1,x2,x3,true)
def jZ:AQ:=⟨[.Aq 199 (.ag [.i .u32,.i .u32,.s])],[]⟩
def Zf:List Ah:=[.ti,.ti,.ts]
def fP:List AP:=[⟨.tp [.ag [.i .u32,.i .u32,.s],.b],[],[.ti,.ti,.ts,.tb]⟩]
def gZ:An:=.nd
theorem gm (k:Nat)(y:Tup Zf):EX Tryz.f143 jZ Zf [] fP gZ [] k y=Us k y.1 y.2.1 y.2.2:=by kernel_rfl
noncomputable def ft (k:Nat):Ao Tryz.prog:=CK 143 Tryz.func143 (gm k)
noncomputable def bN (k:Nat)(x1:Int)(x2:Int)(x3:Int)(x4:Int)(x5:Int)(x6:Int):Option (Int × Int × ByteArray × Bool) :=
some (0,0,ByteArray.empty,false)
def gN:AQ:=⟨[.Aq 192 (.ag [.i .u32,.i .u32,.i .u32,.i .u32,.i .u32,.i .u32])],[]⟩
def ZX:List Ah:=[.ti,.ti,.ti,.ti,.ti,.ti]
def jQ:List AP:=[⟨.tp [.ag [.i .u32,.i .u32,.s],.b],[],[.ti,.ti,.ts,.tb]⟩]
def gU:An:=.nd
theorem ia (k:Nat)(y:Tup ZX):EX Tryz.f143 gN ZX [] jQ gU [] k y=bN k y.1 y.2.1 y.2.2.1 y.2.2.2.1 y.2.2.2.2.1 y.2.2.2.2.2:=by kernel_rfl
noncomputable def iz (k:Nat):Ao Tryz.prog:=CK 143 Tryz.func143 (ia k)
noncomputable def YU (k:Nat)(x1:Int)(x2:Int)(x3:Int):Option (Int × Int × ByteArray × Bool) :=
some (0,0,ByteArray.empty,false)
def gT:AQ:=⟨[.Aq 78 (.ag [.i .u32,.i .u32,.i .u32])],[]⟩
def aI:List Ah:=[.ti,.ti,.ti]
def fJ:List AP:=[⟨.tp [.ag [.i .u32,.i .u32,.s],.b],[],[.ti,.ti,.ts,.tb]⟩]
def iB:An:=.nd
theorem gB (k:Nat)(y:Tup aI):EX Tryz.f143 gT aI [] fJ iB [] k y=YU k y.1 y.2.1 y.2.2:=by kernel_rfl
noncomputable def gS (k:Nat):Ao Tryz.prog:=CK 143 Tryz.func143 (gB k)
noncomputable def UD (k:Nat)(x1:(List Int)):Option Int :=
some (x1.length:Int)
def re:AQ:=⟨[.pt 1000000 0],[(1000000,.bx 252 [.sp 1000000,.sl .u 1000001]),(1000001,.ar 5 Fi)]⟩
def kA:List Ah:=[.tl Fi]
def sL:List AP:=[⟨.i .i64,[],[.ti]⟩]
def n145:An:=.nd
theorem oZ (k:Nat)(y:Tup kA):EX Tryz.f145 re kA [1000000,1000001] sL n145 [] k y=UD k y:=by kernel_rfl
noncomputable def pK (k:Nat):Ao Tryz.prog:=CK 145 Tryz.func145 (oZ k)
noncomputable def SG (k:Nat)(x1:(List Int)):Option (ByteArray × (List Int)) :=
Ai (KR x1) (some (strOfNums x1,x1))
def sB:AQ:=⟨[.pt 1000000 0],[(1000000,.bx 252 [.sp 1000000,.sl .u 1000001]),(1000001,.ar 5 Fi)]⟩
def qX:List Ah:=[.tl Fi]
def oS:List AP:=[⟨.s,[(1000001,.ar 2000005 Fi)],[.ts,.tl Fi]⟩]
noncomputable def rI (k:Nat):Ao Tryz.prog:=⟨147,Tryz.f147,Tryz.func147,by kernel_rfl,by kernel_rfl,sB,qX,[1000000],oS,fun y=>SG k y,fun y r h=>by
 have h2:Ai (KR y) (some (strOfNums y,y))=some r:=h
 obtain ⟨hb,h3⟩:=DY h2
 cases h3
 exact MJ.Mv (ρ:=Tryz.lays169_ren) Tryz.lays169 Tryz.Builder_Extra_169 (.inl rfl) (by decide) hb⟩
noncomputable def TS (k:Nat)(z6:(Int × Int)):Option ((Int × Int) ⊕ Int) :=
cond (decide (z6.2 < 8)) (
((cond ((bits .and .u32 z6.1 1) == 1) (
some (bits .xor .u32 (z6.1.fdiv (2 ^ 1)) 3988292384)) (
some (z6.1.fdiv (2 ^ 1))):Option Int)).bind fun y7 =>
some (.inl (y7,(IntKind.wrap .i64 (z6.2+1))))) (
some (.inr z6.1))
noncomputable def dp (k:Nat)(x1:Int)(x2:Int):Option Int :=
(AE (TS k) k ((bits .xor .u32 x1 (IntKind.wrap .u32 x2)),0)).bind fun y8 =>
some y8
def rE:AQ:=⟨[.i .u32,.i .u8],[]⟩
def lx:List Ah:=[.ti,.ti]
def sf:List AP:=[⟨.i .u32,[],[.ti]⟩]
def n176:An:=.sq (.nd) (.sq (.nd) (.sq (.sq (.nd) (.lp [] [] ⟨[(0,.i .u32),(10,.i .i64)],[]⟩ [.ti,.ti] [(2,⟨[(0,.i .u32)],[]⟩)] [[.ti]] (.sq (.nd) (.sq (.nd) (.jn [10] [] [(0,⟨[(0,.i .u32)],[]⟩)] [[.ti]] (.nd) (.nd)))))) (.nd)))
theorem rX (k:Nat)(y:Tup lx):EX Tryz.f176 rE lx [] sf n176 [] k y=dp k y.1 y.2:=by kernel_rfl
noncomputable def sX (k:Nat):Ao Tryz.prog:=CK 176 Tryz.func176 (rX k)
noncomputable def Hs (k:Nat)(a38:ByteArray)(z39:(Int × Int)):Option ((Int × Int) ⊕ Int) :=
cond (decide (z39.2 < (a38.size:Int))) (
Ai (decide (0<=z39.2/\z39.2 < (a38.size:Int))) <|
(dp k z39.1 (bt a38 z39.2)).bind fun y40 =>
some (.inl (y40,(IntKind.wrap .i64 (z39.2+1))))) (
some (.inr z39.1))
noncomputable def JR (k:Nat)(x1:(List ByteArray))(z36:(Int × Int)):Option ((Int × Int) ⊕ Int) :=
cond (decide (z36.2 < (x1.length:Int))) (
(ix x1 z36.2).bind fun a37 =>
(x1[z36.2.toNat]?).bind fun a38 =>
(AE (Hs k a38) k (z36.1,0)).bind fun y41 =>
some (.inl (y41,(IntKind.wrap .i64 (z36.2+1))))) (
some (.inr z36.1))
noncomputable def Ry (k:Nat)(x1:(List ByteArray)):Option Int :=
(AE (JR k x1) k (4294967295,0)).bind fun y42 =>
some (bits .xor .u32 4294967295 y42)
def oK:AQ:=⟨[.sl .u 1000000],[(1000000,.ar 9 (.str .nil))]⟩
def mF:List Ah:=[.tl (.str .nil)]
def rJ:List AP:=[⟨.i .u32,[],[.ti]⟩]
def n146:An:=.sq (.nd) (.sq (.nd) (.sq (.sq (.nd) (.lp [7,8] [] ⟨[(3,.i .u32),(9,.i .i64)],[]⟩ [.ti,.ti] [(2,⟨[(3,.i .u32)],[]⟩)] [[.ti]] (.sq (.nd) (.sq (.nd) (.sq (.sq (.nd) (.sq (.nd) (.lp [5,9,14] [] ⟨[(3,.i .u32),(15,.i .i64)],[]⟩ [.ti,.ti] [(4,⟨[(3,.i .u32)],[]⟩)] [[.ti]] (.nd)))) (.nd)))))) (.nd)))
theorem pw (k:Nat)(y:Tup mF):EX Tryz.f146 oK mF [1000000] rJ n146 [sX k] k y=Ry k y:=by kernel_rfl
noncomputable def qQ (k:Nat):Ao Tryz.prog:=CK 146 Tryz.func146 (pw k)
noncomputable def Fx (k:Nat)(x1:(List Int)):Option (ByteArray × (List Int)) :=
Ai (KR x1) (some (strOfNums x1,x1))
def fw:AQ:=⟨[.pt 1000000 0],[(1000000,.bx 252 [.sp 1000000,.sl .u 1000001]),(1000001,.ar 2000005 Fi)]⟩
def fR:List Ah:=[.tl Fi]
def gj:List AP:=[⟨.s,[(1000001,.ar 2000005 Fi)],[.ts,.tl Fi]⟩]
noncomputable def fW (k:Nat):Ao Tryz.prog:=⟨147,Tryz.f147,Tryz.func147,by kernel_rfl,by kernel_rfl,fw,fR,[1000000],gj,fun y=>Fx k y,fun y r h=>by
 have h2:Ai (KR y) (some (strOfNums y,y))=some r:=h
 obtain ⟨hb,h3⟩:=DY h2
 cases h3
 exact MJ.Mv (ρ:=Tryz.lays169_ren) Tryz.lays169 Tryz.Builder_Extra_169 (.inr rfl) (by decide) hb⟩
noncomputable def II (k:Nat)(x1:ByteArray)(x2:Int)(z11:(Int × Int)):Option ((Int × Int) ⊕ ((Int × Int × Int) ⊕ Unit)) :=
cond (decide (z11.2 < 5)) (
cond (decide ((x1.size:Int)<=(IntKind.wrap .i64 (x2+z11.2)))) (
some (.inr (.inl (0,0,3)))) (
Ai (decide (0<=(IntKind.wrap .i64 (x2+z11.2))/\(IntKind.wrap .i64 (x2+z11.2)) < (x1.size:Int))) <|
((cond (z11.2 == 4) (
cond (decide (15 < (bt x1 (IntKind.wrap .i64 (x2+z11.2))))) (
some true) (
cond (decide (0 < z11.2)) (
some ((bt x1 (IntKind.wrap .i64 (x2+z11.2))) == 0)) (
some false))) (
cond (decide (0 < z11.2)) (
some ((bt x1 (IntKind.wrap .i64 (x2+z11.2))) == 0)) (
some false)):Option Bool)).bind fun y12 =>
cond y12 (
some (.inr (.inl (0,0,2)))) (
Ai (decide (0<=(IntKind.wrap .i64 (7 * z11.2)))) <|
cond (decide ((bt x1 (IntKind.wrap .i64 (x2+z11.2))) < 128)) (
some (.inr (.inl ((bits .or .u32 z11.1 (IntKind.wrap .u32 ((IntKind.wrap .u32 (bits .and .u8 (bt x1 (IntKind.wrap .i64 (x2+z11.2))) 127)) * 2 ^ (min (IntKind.wrap .i64 (7 * z11.2)).toNat 32)))),(IntKind.wrap .i64 ((IntKind.wrap .i64 (x2+z11.2))+1)),0)))) (
some (.inl ((bits .or .u32 z11.1 (IntKind.wrap .u32 ((IntKind.wrap .u32 (bits .and .u8 (bt x1 (IntKind.wrap .i64 (x2+z11.2))) 127)) * 2 ^ (min (IntKind.wrap .i64 (7 * z11.2)).toNat 32)))),(IntKind.wrap .i64 (z11.2+1)))))))) (
some (.inr (.inr ())))
noncomputable def Zl (k:Nat)(x1:ByteArray)(x2:Int):Option (Int × Int × Int) :=
((cond (decide (x2 < 0)) (
some true) (
some (decide ((x1.size:Int) < x2))):Option Bool)).bind fun y2 =>
cond y2 (
some (0,0,1)) (
(AE (II k x1 x2) k (0,0)).bind fun y13 =>
BN (fun y14 =>
some (y14.1,y14.2.1,y14.2.2)) (fun y15 =>
some (0,0,2)) y13)
def qJ:AQ:=⟨[.s,.i .i64],[]⟩
def kM:List Ah:=[.ts,.ti]
def px:List AP:=[⟨.tp [.i .u32,.i .i64,.i .i64],[],[.ti,.ti,.ti]⟩]
def n177:An:=.sq (.nd) (.sq (.jn [0,1] [] [(0,⟨[(17,.b)],[]⟩)] [[.tb]] (.nd) (.nd)) (.sq (.nd) (.sq (.sq (.nd) (.lp [0,1] [] ⟨[(7,.i .u32),(18,.i .i64)],[]⟩ [.ti,.ti] [(1,⟨[(4,.i .u32),(5,.i .i64),(6,.i .i64)],[]⟩),(2,⟨[],[]⟩)] [[.ti,.ti,.ti],[]] (.sq (.nd) (.sq (.nd) (.sq (.sq (.nd) (.sq (.nd) (.sq (.nd) (.sq (.jn [7,8,9,18] [] [(0,⟨[(45,.b)],[]⟩)] [[.tb]] (.nd) (.nd)) (.nd))))) (.nd)))))) (.nd))))
theorem qR (k:Nat)(y:Tup kM):EX Tryz.f177 qJ kM [] px n177 [] k y=Zl k y.1 y.2:=by kernel_rfl
noncomputable def lU (k:Nat):Ao Tryz.prog:=CK 177 Tryz.func177 (qR k)
noncomputable def aK (k:Nat)(x1:ByteArray)(x2:Int)(x3:Int):Option (ByteArray × Int × Int) :=
(Zl k x1 x2).bind fun y2 =>
cond (y2.2.2 != 0) (
some ((⟨#[]⟩:ByteArray),0,y2.2.2)) (
cond (decide ((mx x3 0) < (IntKind.wrap .i64 y2.1))) (
some ((⟨#[]⟩:ByteArray),0,4)) (
cond (decide ((IntKind.wrap .i64 ((x1.size:Int) - y2.2.1)) < (IntKind.wrap .i64 y2.1))) (
some ((⟨#[]⟩:ByteArray),0,3)) (
Ai (Be (x1.size:Int) y2.2.1 (IntKind.wrap .i64 (y2.2.1+(IntKind.wrap .i64 y2.1)))) <|
some ((x1.extract y2.2.1.toNat ((IntKind.wrap .i64 (y2.2.1+(IntKind.wrap .i64 y2.1))).toNat)),(IntKind.wrap .i64 (y2.2.1+(IntKind.wrap .i64 y2.1))),0))))
def qE:AQ:=⟨[.s,.i .i64,.i .i64],[]⟩
def kn:List Ah:=[.ts,.ti,.ti]
def pq:List AP:=[⟨.tp [.s,.i .i64,.i .i64],[],[.ts,.ti,.ti]⟩]
def n189:An:=.nd
theorem oJ (k:Nat)(y:Tup kn):EX Tryz.f189 qE kn [] pq n189 [lU k] k y=aK k y.1 y.2.1 y.2.2:=by kernel_rfl
noncomputable def qw (k:Nat):Ao Tryz.prog:=CK 189 Tryz.func189 (oJ k)
noncomputable def dR (k:Nat)(x1:ByteArray)(x2:Int):Option (ByteArray × Bool × ByteArray × Int × Int) :=
cond (decide ((x1.size:Int)<=x2)) (
some (ByteArray.empty,false,ByteArray.empty,0,3)) (
Ai (decide (0<=x2/\x2 < (x1.size:Int))) <|
cond (decide (1 < (bt x1 x2))) (
some (ByteArray.empty,false,ByteArray.empty,0,2)) (
Ai (decide (0<=x2/\x2 < (x1.size:Int))) <|
(aK k x1 (IntKind.wrap .i64 (x2+1)) 48).bind fun y4 =>
((cond (y4.2.2 != 0) (
some true) (
some ((bt x1 x2) == 1)):Option Bool)).bind fun y5 =>
cond y5 (
some (y4.1,((bt x1 x2) == 1),ByteArray.empty,y4.2.1,y4.2.2)) (
(aK k x1 y4.2.1 48).bind fun y7 =>
some (y4.1,((bt x1 x2) == 1),y7.1,y7.2.1,y7.2.2))))
def rM:AQ:=⟨[.s,.i .i64],[]⟩
def ml:List Ah:=[.ts,.ti]
def sT:List AP:=[⟨.tp [.ag [.s,.b,.s],.i .i64,.i .i64],[],[.ts,.tb,.ts,.ti,.ti]⟩]
def n178:An:=.sq (.nd) (.sq (.nd) (.sq (.nd) (.sq (.nd) (.sq (.nd) (.sq (.sq (.nd) (.jn [0,1,4,7,8] [4,7] [(0,⟨[(38,.b)],[]⟩)] [[.tb]] (.nd) (.nd))) (.nd))))))
theorem og (k:Nat)(y:Tup ml):EX Tryz.f178 rM ml [] sT n178 [qw k] k y=dR k y.1 y.2:=by kernel_rfl
noncomputable def oa (k:Nat):Ao Tryz.prog:=CK 178 Tryz.func178 (og k)
noncomputable def di (k:Nat)(x1:ByteArray):Option (Int × Int) :=
some (((Go.Lib.decodeGo x1).1:Int),((Go.Lib.decodeGo x1).2:Int))
def sQ:AQ:=⟨[.s],[]⟩
def qH:List Ah:=[.ts]
def sN:List AP:=[⟨.tp [.i .i32,.i .i64],[],[.ti,.ti]⟩]
noncomputable def qG (k:Nat)(hm:Mo.m=false):Ao Tryz.prog:=⟨194,Tryz.f194,Tryz.func194,by kernel_rfl,by kernel_rfl,sQ,qH,[],sN,fun y=>di k y,fun y r h=>by
 have h2:some (((Go.Lib.decodeGo y).1:Int),((Go.Lib.decodeGo y).2:Int))=some r:=h
 cases h2
 exact MJ.lib (vs:=[.string y]) rfl (fun _ _ _=>YH) fun w hw=>(Tryz.utf8_DecodeRuneInString y w (cO (by kernel_rfl) (by kernel_rfl) hw)).mono fun e w2 g=>⟨g.1,g.2,fun g2=>by rw [hm] at g2; cases g2⟩⟩
noncomputable def FZ (k:Nat)(x1:ByteArray)(z18:(Int × ByteArray × Nat)):Option ((Int × ByteArray × Nat) ⊕ ((ByteArray × Nat) ⊕ (Int × ByteArray × Nat))) :=
cond (decide (z18.2.2 < z18.2.1.size)) (
((cond (decide (12 < (IntKind.wrap .i64 (z18.1+1)))) (
some true) (
cond (decide (((Utf8.decode z18.2.1 z18.2.2).1:Int) < 33)) (
some true) (
cond (decide (127<=((Utf8.decode z18.2.1 z18.2.2).1:Int))) (
some (decide (((Utf8.decode z18.2.1 z18.2.2).1:Int)<=160))) (
some false))):Option Bool)).bind fun y19 =>
cond y19 (
some (.inr (.inl (z18.2.1,(z18.2.2+(Utf8.decode z18.2.1 z18.2.2).2))))) (
Ai (Be (x1.size:Int) (z18.2.2:Int) (x1.size:Int)) <|
(di k (x1.extract ((z18.2.2:Int).toNat) ((x1.size:Int).toNat))).bind fun y20 =>
((cond (((Utf8.decode z18.2.1 z18.2.2).1:Int) == 65533) (
some (y20.2 == 1)) (
some false):Option Bool)).bind fun y21 =>
cond y21 (
some (.inr (.inl (z18.2.1,(z18.2.2+(Utf8.decode z18.2.1 z18.2.2).2))))) (
some (.inl ((IntKind.wrap .i64 (z18.1+1)),z18.2.1,(z18.2.2+(Utf8.decode z18.2.1 z18.2.2).2)))))) (
some (.inr (.inr (z18.1,z18.2.1,z18.2.2))))
noncomputable def UI (k:Nat)(x1:ByteArray):Option Bool :=
(AE (FZ k x1) k (0,x1,0)).bind fun y22 =>
BN (fun y23 =>
some false) (fun y24 =>
some (decide (0 < y24.1))) y22
def rC:AQ:=⟨[.s],[]⟩
def lT:List Ah:=[.ts]
def rh:List AP:=[⟨.b,[],[.tb]⟩]
def n190:An:=.sq (.nd) (.sq (.nd) (.sq (.sq (.nd) (.lp [0,9] [] ⟨[(3,.i .i64)],[(9,.si)]⟩ [.ti,.ts,.tn] [(1,⟨[(2,.lb false)],[(9,.si)]⟩),(2,⟨[(3,.i .i64)],[(9,.si)]⟩)] [[.ts,.tn],[.ti,.ts,.tn]] (.sq (.nd) (.sq (.nd) (.sq (.nd) (.sq (.nd) (.sq (.jn [3,4,5] [9] [(0,⟨[(29,.b)],[]⟩)] [[.tb]] (.nd) (.nd)) (.sq (.nd) (.jn [3] [9] [(0,⟨[(42,.b)],[]⟩)] [[.tb]] (.nd) (.nd)))))))))) (.nd)))
theorem sU (k:Nat)(hm:Mo.m=false)(y:Tup lT):EX Tryz.f190 rC lT [] rh n190 [qG k hm] k y=UI k y:=by kernel_rfl
noncomputable def pz (k:Nat)(hm:Mo.m=false):Ao Tryz.prog:=CK 190 Tryz.func190 (sU k hm)
noncomputable def Pk (k:Nat)(z3:(ByteArray × Nat × (List Int))):Option ((ByteArray × Nat × (List Int)) ⊕ (ByteArray × Nat × (List Int))) :=
cond (decide (z3.2.1 < z3.1.size)) (
Ai (decide ((z3.2.2.length+[((Utf8.decode z3.1 z3.2.1).1:Int)].length) * 4<=140737488355328)) <|
some (.inl (z3.1,(z3.2.1+(Utf8.decode z3.1 z3.2.1).2),(z3.2.2 ++ [((Utf8.decode z3.1 z3.2.1).1:Int)])))) (
some (.inr (z3.1,z3.2.1,z3.2.2)))
noncomputable def Xt (k:Nat)(x1:ByteArray):Option (List Int) :=
(AE (Pk k) k (x1,0,([]:List Int))).bind fun y4 =>
some y4.2.2
def sC:AQ:=⟨[.s],[]⟩
def mz:List Ah:=[.ts]
def sO:List AP:=[⟨.sl .u 500000,[(500000,.ar 21 (.int .i32 .nil))],[.tl (.int .i32 .nil)]⟩]
def n197:An:=.sq (.nd) (.sq (.nd) (.sq (.sq (.nd) (.lp [7] [] ⟨[(3,.sl .n 300400)],[(7,.si),(300400,.ar 21 (.int .i32 .nil))]⟩ [.ts,.tn,.tl (.int .i32 .nil)] [(2,⟨[(3,.sl .n 300425)],[(7,.si),(300425,.ar 21 (.int .i32 .nil))]⟩)] [[.ts,.tn,.tl (.int .i32 .nil)]] (.nd))) (.nd)))
theorem oH (k:Nat)(y:Tup mz):EX Tryz.f197 sC mz [] sO n197 [] k y=Xt k y:=by kernel_rfl
noncomputable def oh (k:Nat):Ao Tryz.prog:=CK 197 Tryz.func197 (oH k)
noncomputable def cQ (k:Nat)(x1:Int):Option Bool :=
some (x1 != x1)
def pQ:AQ:=⟨[.i .i32],[]⟩
def kC:List Ah:=[.ti]
def oD:List AP:=[⟨.b,[],[.tb]⟩]
def n200:An:=.nd
theorem qK (k:Nat)(y:Tup kC):EX Tryz.f200 pQ kC [] oD n200 [] k y=cQ k y:=by kernel_rfl
noncomputable def od (k:Nat):Ao Tryz.prog:=CK 200 Tryz.func200 (qK k)
noncomputable def Yv (k:Nat)(x1:Int)(x2:Int):Option Int :=
(cQ k x1).bind fun y2 =>
(cQ k x2).bind fun y4 =>
cond y2 (
cond y4 (
some 0) (
some (-1))) (
cond y4 (
some 1) (
cond (decide (x1 < x2)) (
some (-1)) (
cond (decide (x2 < x1)) (
some 1) (
some 0))))
def po:AQ:=⟨[.i .i32,.i .i32],[]⟩
def nG:List Ah:=[.ti,.ti]
def qz:List AP:=[⟨.i .i64,[],[.ti]⟩]
def n199:An:=.nd
theorem qS (k:Nat)(y:Tup nG):EX Tryz.f199 po nG [] qz n199 [od k] k y=Yv k y.1 y.2:=by kernel_rfl
noncomputable def mr (k:Nat):Ao Tryz.prog:=CK 199 Tryz.func199 (qS k)
noncomputable def fS (k:Nat)(x1:(List Int))(x2:(List Int))(z27:Int):Option (Int ⊕ (Int ⊕ Unit)) :=
cond (decide (z27 < (x1.length:Int))) (
(ix x1 z27).bind fun a28 =>
cond (decide ((x2.length:Int)<=z27)) (
some (.inr (.inl 1))) (
(ix x2 z27).bind fun a29 =>
(x2[z27.toNat]?).bind fun a30 =>
(Yv k a28 a30).bind fun y31 =>
cond (y31 != 0) (
some (.inr (.inl y31))) (
some (.inl (IntKind.wrap .i64 (z27+1)))))) (
some (.inr (.inr ())))
noncomputable def qu (k:Nat)(x1:(List Int))(x2:(List Int)):Option Int :=
(AE (fS k x1 x2) k 0).bind fun y32 =>
BN (fun y33 =>
some y33) (fun y34 =>
cond (decide ((x1.length:Int) < (x2.length:Int))) (
some (-1)) (
some 0)) y32
def rK:AQ:=⟨[.fz .u (.int .i32 .nil),.sl .u 1000000],[(1000000,.ar 21 (.int .i32 .nil))]⟩
def mL:List Ah:=[.tl (.int .i32 .nil),.tl (.int .i32 .nil)]
def rG:List AP:=[⟨.i .i64,[],[.ti]⟩]
def n198:An:=.sq (.nd) (.sq (.sq (.nd) (.lp [0,1,9,10] [] ⟨[(11,.i .i64)],[]⟩ [.ti] [(1,⟨[(4,.i .i64)],[]⟩),(2,⟨[],[]⟩)] [[.ti],[]] (.nd))) (.nd))
theorem pU (k:Nat)(y:Tup mL):EX Tryz.f198 rK mL [1000000] rG n198 [mr k] k y=qu k y.1 y.2:=by kernel_rfl
noncomputable def C198 (k:Nat):Ao Tryz.prog:=CK 198 Tryz.func198 (pU k)
noncomputable def NW (k:Nat)(x1:(List Int))(x2:(List Int))(z22:Int):Option (Int ⊕ (Int ⊕ Unit)) :=
cond (decide (z22 < (x1.length:Int))) (
(ix x1 z22).bind fun a23 =>
cond (decide ((x2.length:Int)<=z22)) (
some (.inr (.inl 1))) (
(ix x2 z22).bind fun a24 =>
(Yv k a23 a24).bind fun y25 =>
cond (y25 != 0) (
some (.inr (.inl y25))) (
some (.inl (IntKind.wrap .i64 (z22+1)))))) (
some (.inr (.inr ())))
noncomputable def Ps (k:Nat)(x1:(List Int))(x2:(List Int)):Option Int :=
(AE (NW k x1 x2) k 0).bind fun y26 =>
BN (fun y27 =>
some y27) (fun y28 =>
cond (decide ((x1.length:Int) < (x2.length:Int))) (
some (-1)) (
some 0)) y26
def iL:AQ:=⟨[.fz .u (.int .i32 .nil),.fz .u (.int .i32 .nil)],[]⟩
def aP:List Ah:=[.tl (.int .i32 .nil),.tl (.int .i32 .nil)]
def fO:List AP:=[⟨.i .i64,[],[.ti]⟩]
def gQ:An:=.sq (.nd) (.sq (.sq (.nd) (.lp [0,1,9,10] [] ⟨[(11,.i .i64)],[]⟩ [.ti] [(1,⟨[(4,.i .i64)],[]⟩),(2,⟨[],[]⟩)] [[.ti],[]] (.nd))) (.nd))
theorem hE (k:Nat)(y:Tup aP):EX Tryz.f198 iL aP [] fO gQ [mr k] k y=Ps k y.1 y.2:=by kernel_rfl
noncomputable def iT (k:Nat):Ao Tryz.prog:=CK 198 Tryz.func198 (hE k)
noncomputable def aZ (k:Nat)(x1:ByteArray)(x2:ByteArray):Option Int :=
(Xt k x1).bind fun y3 =>
(Xt k x2).bind fun y4 =>
(Ps k y3 y4).bind fun y5 =>
some y5
def rV:AQ:=⟨[.s,.s],[]⟩
def lS:List Ah:=[.ts,.ts]
def pS:List AP:=[⟨.i .i64,[],[.ti]⟩]
def n195:An:=.sq (.nd) (.sq (.nd) (.sq (.fr [(2,400800),(2,401000)]) (.nd)))
theorem pY (k:Nat)(y:Tup lS):EX Tryz.f195 rV lS [] pS n195 [oh k,iT k] k y=aZ k y.1 y.2:=by kernel_rfl
noncomputable def rQ (k:Nat):Ao Tryz.prog:=CK 195 Tryz.func195 (pY k)
noncomputable def bD (k:Nat)(x1:ByteArray)(x2:ByteArray):Option Bool :=
(aZ k x1 x2).bind fun y2 =>
cond (decide (y2 < 0)) (
some true) (
cond (y2 == 0) (
some (Op.bytesLess x1.toList x2.toList)) (
some false))
def pI:AQ:=⟨[.s,.s],[]⟩
def ly:List Ah:=[.ts,.ts]
def qY:List AP:=[⟨.b,[],[.tb]⟩]
def n191:An:=.nd
theorem oI (k:Nat)(y:Tup ly):EX Tryz.f191 pI ly [] qY n191 [rQ k] k y=bD k y.1 y.2:=by kernel_rfl
noncomputable def pj (k:Nat):Ao Tryz.prog:=CK 191 Tryz.func191 (oI k)
noncomputable def Ib (k:Nat)(x1:(List AY))(z40:Int):Option (Int ⊕ (Int ⊕ Unit)) :=
cond (decide (z40 < (x1.length:Int))) (
(ix x1 z40).bind fun a41 =>
(UI k a41.1).bind fun y42 =>
cond (!y42) (
some (.inr (.inl 10))) (
cond (decide (48 < (a41.2.2.size:Int))) (
some (.inr (.inl 11))) (
((cond a41.2.1 (
cond (!(a41.2.2.toList == (⟨#[]⟩:ByteArray).toList)) (
some true) (
cond (decide (0 < z40)) (
(ix x1 (IntKind.wrap .i64 (z40 - 1))).bind fun a43 =>
(bD k a43.1 a41.1).bind fun y44 =>
some (!y44)) (
some false))) (
cond (decide (0 < z40)) (
(ix x1 (IntKind.wrap .i64 (z40 - 1))).bind fun a45 =>
(bD k a45.1 a41.1).bind fun y46 =>
some (!y46)) (
some false)):Option Bool)).bind fun y47 =>
cond y47 (
some (.inr (.inl 2))) (
some (.inl (IntKind.wrap .i64 (z40+1))))))) (
some (.inr (.inr ())))
noncomputable def dr (k:Nat)(x1:(List AY)):Option Int :=
((cond (decide ((x1.length:Int) < 1)) (
some true) (
some (decide (8 < (x1.length:Int)))):Option Bool)).bind fun y2 =>
cond y2 (
some 12) (
(AE (Ib k x1) k 0).bind fun y48 =>
BN (fun y49 =>
some y49) (fun y50 =>
some 0) y48)
def pE:AQ:=⟨[.fz .u CF],[]⟩
def mJ:List Ah:=[.tl CF]
def rP:List AP:=[⟨.i .i64,[],[.ti]⟩]
def n179:An:=.sq (.nd) (.sq (.jn [0] [] [(0,⟨[(12,.b)],[]⟩)] [[.tb]] (.nd) (.nd)) (.sq (.sq (.nd) (.lp [0,13,14] [] ⟨[(15,.i .i64)],[]⟩ [.ti] [(1,⟨[(2,.i .i64)],[]⟩),(2,⟨[],[]⟩)] [[.ti],[]] (.sq (.nd) (.sq (.nd) (.sq (.sq (.nd) (.sq (.nd) (.sq (.nd) (.sq (.nd) (.sq (.nd) (.jn [15] [] [(0,⟨[(30,.b)],[]⟩)] [[.tb]] (.mk [] [0,1,3,7,15,31,63,127,255,511,1023,2047,2047,6143,16383,32767,65535,2047,133119,524287,1048575,2097151,4194303,8388607]) (.nd))))))) (.nd)))))) (.nd)))
theorem qi (k:Nat)(hm:Mo.m=false)(y:Tup mJ):EX Tryz.f179 pE mJ [] rP n179 [pz k hm,pj k] k y=dr k y:=by kernel_rfl
noncomputable def rS (k:Nat)(hm:Mo.m=false):Ao Tryz.prog:=CK 179 Tryz.func179 (qi k hm)
noncomputable def Hp (k:Nat)(x1:ByteArray)(y2:(Int × Int × Int))(z18:(Int × Int × (List AY))):Option ((Int × Int × (List AY)) ⊕ (Int ⊕ (Int × (List AY)))) :=
cond (decide (z18.2.1 < y2.1)) (
(dR k x1 z18.1).bind fun y19 =>
cond (y19.2.2.2.2 != 0) (
some (.inr (.inl y19.2.2.2.2))) (
Ai (decide ((z18.2.2.length+[(y19.1,y19.2.1,y19.2.2.1)].length) * 40<=140737488355328)) <|
some (.inl (y19.2.2.2.1,(IntKind.wrap .u32 (z18.2.1+1)),(z18.2.2 ++ [(y19.1,y19.2.1,y19.2.2.1)]))))) (
some (.inr (.inr (z18.1,z18.2.2))))
noncomputable def RI (k:Nat)(x1:ByteArray):Option ((List AY) × Int) :=
(Zl k x1 0).bind fun y2 =>
cond (y2.2.2 != 0) (
some (([]:List AY),y2.2.2)) (
((cond (decide (y2.1 < 1)) (
some true) (
some (decide (8 < y2.1))):Option Bool)).bind fun y4 =>
cond y4 (
some (([]:List AY),12)) (
(AE (Hp k x1 y2) k (y2.2.1,0,([]:List AY))).bind fun y20 =>
BN (fun y21 =>
some (([]:List AY),y21)) (fun y22 =>
cond (decide (y22.1 < (x1.size:Int))) (
some (([]:List AY),2)) (
(dr k y22.2).bind fun y25 =>
cond (y25 != 0) (
some (([]:List AY),y25)) (
some (y22.2,0)))) y20))
def sF:AQ:=⟨[.s],[]⟩
def nL:List Ah:=[.ts]
def pL:List AP:=[⟨.tp [.fz .u CF,.i .i64],[],[.tl CF,.ti]⟩]
def n148:An:=.sq (.nd) (.sq (.nd) (.sq (.nd) (.sq (.jn [0,4,5] [] [(0,⟨[(24,.b)],[]⟩)] [[.tb]] (.nd) (.nd)) (.sq (.nd) (.sq (.sq (.nd) (.lp [0,25] [] ⟨[(5,.i .i64),(7,.sl .n 301300),(26,.i .u32)],[(301300,.ar 148 CF)]⟩ [.ti,.ti,.tl CF] [(1,⟨[(2,.c (.slice none 0 0)),(3,.i .i64)],[]⟩),(2,⟨[(5,.i .i64),(7,.sl .n 301335)],[(301335,.ar 148 CF)]⟩)] [[.ti],[.ti,.tl CF]] (.nd))) (.sq (.nd) (.sq (.sq (.fr [(1,301335)]) (.nd)) (.nd))))))))
theorem rr (k:Nat)(hm:Mo.m=false)(y:Tup nL):EX Tryz.f148 sF nL [] pL n148 [lU k,oa k,rS k hm] k y=RI k y:=by kernel_rfl
noncomputable def py (k:Nat)(hm:Mo.m=false):Ao Tryz.prog:=CK 148 Tryz.func148 (rr k hm)
noncomputable def ZR (k:Nat)(x1:Int)(x2:Int):Option (Int × Int × Int × Int × Int × Int × Bool) :=
some (0,0,0,0,0,0,false)
def jL:AQ:=⟨[.Aq 197 (.ag [.i .u32,.i .u32])],[]⟩
def YT:List Ah:=[.ti,.ti]
def fL:List AP:=[⟨.tp [.ag [.i .u32,.i .u32,.i .u32,.i .u32,.i .u32,.i .u32],.b],[],[.ti,.ti,.ti,.ti,.ti,.ti,.tb]⟩]
def fU:An:=.nd
theorem ir (k:Nat)(y:Tup YT):EX Tryz.f142 jL YT [] fL fU [] k y=ZR k y.1 y.2:=by kernel_rfl
noncomputable def iJ (k:Nat):Ao Tryz.prog:=CK 142 Tryz.func142 (ir k)
noncomputable def ZU (k:Nat)(x1:Int)(x2:Int)(x3:ByteArray):Option (Int × Int × Int × Int × Int × Int × Bool) :=
some (0,0,0,0,0,0,false)
def iu:AQ:=⟨[.Aq 199 (.ag [.i .u32,.i .u32,.s])],[]⟩
def Yx:List Ah:=[.ti,.ti,.ts]
def ja:List AP:=[⟨.tp [.ag [.i .u32,.i .u32,.i .u32,.i .u32,.i .u32,.i .u32],.b],[],[.ti,.ti,.ti,.ti,.ti,.ti,.tb]⟩]
def ig:An:=.nd
theorem hY (k:Nat)(y:Tup Yx):EX Tryz.f142 iu Yx [] ja ig [] k y=ZU k y.1 y.2.1 y.2.2:=by kernel_rfl
noncomputable def jK (k:Nat):Ao Tryz.prog:=CK 142 Tryz.func142 (hY k)
noncomputable def Uu (k:Nat)(x1:Int)(x2:Int)(x3:Int)(x4:Int)(x5:Int)(x6:Int):Option (Int × Int × Int × Int × Int × Int × Bool) :=
some (x1,x2,x3,x4,x5,x6,true)
def gM:AQ:=⟨[.Aq 192 (.ag [.i .u32,.i .u32,.i .u32,.i .u32,.i .u32,.i .u32])],[]⟩
def bF:List Ah:=[.ti,.ti,.ti,.ti,.ti,.ti]
def jH:List AP:=[⟨.tp [.ag [.i .u32,.i .u32,.i .u32,.i .u32,.i .u32,.i .u32],.b],[],[.ti,.ti,.ti,.ti,.ti,.ti,.tb]⟩]
def fH:An:=.nd
theorem gi (k:Nat)(y:Tup bF):EX Tryz.f142 gM bF [] jH fH [] k y=Uu k y.1 y.2.1 y.2.2.1 y.2.2.2.1 y.2.2.2.2.1 y.2.2.2.2.2:=by kernel_rfl
noncomputable def gL (k:Nat):Ao Tryz.prog:=CK 142 Tryz.func142 (gi k)
noncomputable def bE (k:Nat)(x1:Int)(x2:Int)(x3:Int):Option (Int × Int × Int × Int × Int × Int × Bool) :=
some (0,0,0,0,0,0,false)
def fX:AQ:=⟨[.Aq 78 (.ag [.i .u32,.i .u32,.i .u32])],[]⟩
def Yu:List Ah:=[.ti,.ti,.ti]
def fQ:List AP:=[⟨.tp [.ag [.i .u32,.i .u32,.i .u32,.i .u32,.i .u32,.i .u32],.b],[],[.ti,.ti,.ti,.ti,.ti,.ti,.tb]⟩]
def fG:An:=.nd
theorem il (k:Nat)(y:Tup Yu):EX Tryz.f142 fX Yu [] fQ fG [] k y=bE k y.1 y.2.1 y.2.2:=by kernel_rfl
noncomputable def iH (k:Nat):Ao Tryz.prog:=CK 142 Tryz.func142 (il k)
noncomputable def EW (k:Nat)(x1:(List BV))(y554:(Int × Int × Int × Int × Int × Int × Bool))(z557:(Int × (List Int))):Option ((Int × (List Int)) ⊕ ((List Int) ⊕ (List Int))) :=
cond (decide (z557.1 < ((cut x1 0 (IntKind.wrap .i64 ((x1.length:Int) - 1))).length:Int))) (
(((ix (cut x1 0 (IntKind.wrap .i64 ((x1.length:Int) - 1))) z557.1).bind fun a558 =>
(((eE k a558.1 a558.2.1 a558.2.2.1 a558.2.2.2).bind fun y559 =>
BN (fun y560 =>
some (.inl ())) (fun y561 =>
BN (fun y562 =>
some (.inr (.inl (y562.1,y562.2.1)))) (fun y563 =>
BN (fun y564 =>
some (.inr (.inr (.inl (y564.1,y564.2.1,y564.2.2.1))))) (fun y565 =>
BN (fun y566 =>
some (.inr (.inr (.inr (.inl (y566.1,y566.2.1,y566.2.2.1,y566.2.2.2.1,y566.2.2.2.2.1,y566.2.2.2.2.2.1)))))) (fun y567 =>
some (.inr (.inr (.inr (.inr (y567.1,y567.2.1,y567.2.2.1)))))) y565) y563) y561) y559:Option Wp)).bind fun y568 =>
BN (fun y569 =>
(kx k).bind fun y571 =>
((cond (!y571.2.2.2) (
some true) (
cond (y571.1 != y554.1) (
some true) (
some (y571.2.1 != (IntKind.wrap .u32 z557.1)))):Option Bool)).bind fun y572 =>
cond y572 (
some (.inr z557.2)) (
(Sk k y571.2.2.1 z557.2).bind fun y573 =>
some (.inl y573.2))) (fun y570 =>
BN (fun y574 =>
(Xq k y574.1 y574.2).bind fun y576 =>
((cond (!y576.2.2.2) (
some true) (
cond (y576.1 != y554.1) (
some true) (
some (y576.2.1 != (IntKind.wrap .u32 z557.1)))):Option Bool)).bind fun y577 =>
cond y577 (
some (.inr z557.2)) (
(Sk k y576.2.2.1 z557.2).bind fun y578 =>
some (.inl y578.2))) (fun y575 =>
BN (fun y579 =>
(Us k y579.1 y579.2.1 y579.2.2).bind fun y581 =>
((cond (!y581.2.2.2) (
some true) (
cond (y581.1 != y554.1) (
some true) (
some (y581.2.1 != (IntKind.wrap .u32 z557.1)))):Option Bool)).bind fun y582 =>
cond y582 (
some (.inr z557.2)) (
(Sk k y581.2.2.1 z557.2).bind fun y583 =>
some (.inl y583.2))) (fun y580 =>
BN (fun y584 =>
(bN k y584.1 y584.2.1 y584.2.2.1 y584.2.2.2.1 y584.2.2.2.2.1 y584.2.2.2.2.2).bind fun y586 =>
((cond (!y586.2.2.2) (
some true) (
cond (y586.1 != y554.1) (
some true) (
some (y586.2.1 != (IntKind.wrap .u32 z557.1)))):Option Bool)).bind fun y587 =>
cond y587 (
some (.inr z557.2)) (
(Sk k y586.2.2.1 z557.2).bind fun y588 =>
some (.inl y588.2))) (fun y585 =>
(YU k y585.1 y585.2.1 y585.2.2).bind fun y589 =>
((cond (!y589.2.2.2) (
some true) (
cond (y589.1 != y554.1) (
some true) (
some (y589.2.1 != (IntKind.wrap .u32 z557.1)))):Option Bool)).bind fun y590 =>
cond y590 (
some (.inr z557.2)) (
(Sk k y589.2.2.1 z557.2).bind fun y591 =>
some (.inl y591.2))) y580) y575) y570) y568:Option ((List Int) ⊕ (List Int)))).bind fun y592 =>
BN (fun y593 =>
some (.inl ((IntKind.wrap .i64 (z557.1+1)),y593))) (fun y594 =>
some (.inr (.inl y594))) y592) (
some (.inr (.inr z557.2)))
noncomputable def kY (k:Nat)(x1:(List BV)):Option (Int × Int × Int × (List AY) × Int) :=
cond (decide ((x1.length:Int) < 2)) (
some (0,0,0,([]:List AY),3)) (
(((ix x1 (IntKind.wrap .i64 ((x1.length:Int) - 1))).bind fun a11 =>
(eE k a11.1 a11.2.1 a11.2.2.1 a11.2.2.2).bind fun y12 =>
BN (fun y13 =>
some (.inl ())) (fun y14 =>
BN (fun y15 =>
some (.inr (.inl (y15.1,y15.2.1)))) (fun y16 =>
BN (fun y17 =>
some (.inr (.inr (.inl (y17.1,y17.2.1,y17.2.2.1))))) (fun y18 =>
BN (fun y19 =>
some (.inr (.inr (.inr (.inl (y19.1,y19.2.1,y19.2.2.1,y19.2.2.2.1,y19.2.2.2.2.1,y19.2.2.2.2.2.1)))))) (fun y20 =>
some (.inr (.inr (.inr (.inr (y20.1,y20.2.1,y20.2.2.1)))))) y18) y16) y14) y12:Option Wp)).bind fun y21 =>
BN (fun y22 =>
(mI k).bind fun y25 =>
((cond (!y25.2.2.2.2.2.2) (
some true) (
some (y25.2.1 != (IntKind.wrap .u32 (IntKind.wrap .i64 ((x1.length:Int) - 1))))):Option Bool)).bind fun y27 =>
cond y27 (
some (0,0,0,([]:List AY),2)) (
Ai (Be (x1.length:Int) 0 (IntKind.wrap .i64 ((x1.length:Int) - 1))) <|
(AE (EW k x1 y25) k (0,([]:List Int))).bind fun y376 =>
BN (fun y377 =>
some (0,0,0,([]:List AY),2)) (fun y378 =>
(((UD k y378).bind fun y386 =>
cond ((IntKind.wrap .u32 y386) != y25.2.2.2.2.2.1) (
some (true,y378)) (
(SG k y378).bind fun y387 =>
(Ry k [y387.1]).bind fun y388 =>
some ((y388 != y25.2.2.2.2.1),y387.2)):Option (Bool × (List Int)))).bind fun y389 =>
cond y389.1 (
some (0,0,0,([]:List AY),5)) (
(Fx k y389.2).bind fun y392 =>
(RI k y392.1).bind fun y393 =>
cond (y393.2 != 0) (
some (0,0,0,([]:List AY),y393.2)) (
some (y25.1,y25.2.2.1,y25.2.2.2.1,y393.1,0)))) y376)) (fun y23 =>
BN (fun y394 =>
(ZR k y394.1 y394.2).bind fun y397 =>
((cond (!y397.2.2.2.2.2.2) (
some true) (
some (y397.2.1 != (IntKind.wrap .u32 (IntKind.wrap .i64 ((x1.length:Int) - 1))))):Option Bool)).bind fun y399 =>
cond y399 (
some (0,0,0,([]:List AY),2)) (
Ai (Be (x1.length:Int) 0 (IntKind.wrap .i64 ((x1.length:Int) - 1))) <|
(AE (EW k x1 y397) k (0,([]:List Int))).bind fun y438 =>
BN (fun y439 =>
some (0,0,0,([]:List AY),2)) (fun y440 =>
(((UD k y440).bind fun y441 =>
cond ((IntKind.wrap .u32 y441) != y397.2.2.2.2.2.1) (
some (true,y440)) (
(SG k y440).bind fun y442 =>
(Ry k [y442.1]).bind fun y443 =>
some ((y443 != y397.2.2.2.2.1),y442.2)):Option (Bool × (List Int)))).bind fun y444 =>
cond y444.1 (
some (0,0,0,([]:List AY),5)) (
(Fx k y444.2).bind fun y445 =>
(RI k y445.1).bind fun y446 =>
cond (y446.2 != 0) (
some (0,0,0,([]:List AY),y446.2)) (
some (y397.1,y397.2.2.1,y397.2.2.2.1,y446.1,0)))) y438)) (fun y395 =>
BN (fun y447 =>
(ZU k y447.1 y447.2.1 y447.2.2).bind fun y450 =>
((cond (!y450.2.2.2.2.2.2) (
some true) (
some (y450.2.1 != (IntKind.wrap .u32 (IntKind.wrap .i64 ((x1.length:Int) - 1))))):Option Bool)).bind fun y452 =>
cond y452 (
some (0,0,0,([]:List AY),2)) (
Ai (Be (x1.length:Int) 0 (IntKind.wrap .i64 ((x1.length:Int) - 1))) <|
(AE (EW k x1 y450) k (0,([]:List Int))).bind fun y491 =>
BN (fun y492 =>
some (0,0,0,([]:List AY),2)) (fun y493 =>
(((UD k y493).bind fun y494 =>
cond ((IntKind.wrap .u32 y494) != y450.2.2.2.2.2.1) (
some (true,y493)) (
(SG k y493).bind fun y495 =>
(Ry k [y495.1]).bind fun y496 =>
some ((y496 != y450.2.2.2.2.1),y495.2)):Option (Bool × (List Int)))).bind fun y497 =>
cond y497.1 (
some (0,0,0,([]:List AY),5)) (
(Fx k y497.2).bind fun y498 =>
(RI k y498.1).bind fun y499 =>
cond (y499.2 != 0) (
some (0,0,0,([]:List AY),y499.2)) (
some (y450.1,y450.2.2.1,y450.2.2.2.1,y499.1,0)))) y491)) (fun y448 =>
BN (fun y500 =>
(Uu k y500.1 y500.2.1 y500.2.2.1 y500.2.2.2.1 y500.2.2.2.2.1 y500.2.2.2.2.2).bind fun y503 =>
((cond (!y503.2.2.2.2.2.2) (
some true) (
some (y503.2.1 != (IntKind.wrap .u32 (IntKind.wrap .i64 ((x1.length:Int) - 1))))):Option Bool)).bind fun y505 =>
cond y505 (
some (0,0,0,([]:List AY),2)) (
Ai (Be (x1.length:Int) 0 (IntKind.wrap .i64 ((x1.length:Int) - 1))) <|
(AE (EW k x1 y503) k (0,([]:List Int))).bind fun y544 =>
BN (fun y545 =>
some (0,0,0,([]:List AY),2)) (fun y546 =>
(((UD k y546).bind fun y547 =>
cond ((IntKind.wrap .u32 y547) != y503.2.2.2.2.2.1) (
some (true,y546)) (
(SG k y546).bind fun y548 =>
(Ry k [y548.1]).bind fun y549 =>
some ((y549 != y503.2.2.2.2.1),y548.2)):Option (Bool × (List Int)))).bind fun y550 =>
cond y550.1 (
some (0,0,0,([]:List AY),5)) (
(Fx k y550.2).bind fun y551 =>
(RI k y551.1).bind fun y552 =>
cond (y552.2 != 0) (
some (0,0,0,([]:List AY),y552.2)) (
some (y503.1,y503.2.2.1,y503.2.2.2.1,y552.1,0)))) y544)) (fun y501 =>
(bE k y501.1 y501.2.1 y501.2.2).bind fun y554 =>
((cond (!y554.2.2.2.2.2.2) (
some true) (
some (y554.2.1 != (IntKind.wrap .u32 (IntKind.wrap .i64 ((x1.length:Int) - 1))))):Option Bool)).bind fun y556 =>
cond y556 (
some (0,0,0,([]:List AY),2)) (
Ai (Be (x1.length:Int) 0 (IntKind.wrap .i64 ((x1.length:Int) - 1))) <|
(AE (EW k x1 y554) k (0,([]:List Int))).bind fun y595 =>
BN (fun y596 =>
some (0,0,0,([]:List AY),2)) (fun y597 =>
(((UD k y597).bind fun y598 =>
cond ((IntKind.wrap .u32 y598) != y554.2.2.2.2.2.1) (
some (true,y597)) (
(SG k y597).bind fun y599 =>
(Ry k [y599.1]).bind fun y600 =>
some ((y600 != y554.2.2.2.2.1),y599.2)):Option (Bool × (List Int)))).bind fun y601 =>
cond y601.1 (
some (0,0,0,([]:List AY),5)) (
(Fx k y601.2).bind fun y602 =>
(RI k y602.1).bind fun y603 =>
cond (y603.2 != 0) (
some (0,0,0,([]:List AY),y603.2)) (
some (y554.1,y554.2.2.1,y554.2.2.2.1,y603.1,0)))) y595)) y448) y395) y23) y21)
def A96:AQ:=⟨[.fz .u DF],[]⟩
def sv:List Ah:=[.tl DF]
def R96:List AP:=[⟨.tp [.ag [.i .u32,.i .u32,.i .u32,.fz .u CF],.i .i64],[],[.ti,.ti,.ti,.tl CF,.ti]⟩]
def n96:An:=.sq (.nd) (.sq (.nd) (.sq (.nd) (.jn [0,2,4] [2] [(0,⟨[(5,.c (.nilIface))],[]⟩),(0,⟨[(5,.Aq 197 (.ag [.i .u32,.i .u32]))],[]⟩),(0,⟨[(5,.Aq 199 (.ag [.i .u32,.i .u32,.s]))],[]⟩),(0,⟨[(5,.Aq 192 (.ag [.i .u32,.i .u32,.i .u32,.i .u32,.i .u32,.i .u32]))],[]⟩),(0,⟨[(5,.Aq 78 (.ag [.i .u32,.i .u32,.i .u32]))],[]⟩)] [[],[.ti,.ti],[.ti,.ti,.ts],[.ti,.ti,.ti,.ti,.ti,.ti],[.ti,.ti,.ti]] (.nd) (.sq (.nd) (.sq (.jn [0,2,4,7] [2,7] [(0,⟨[(46,.b)],[]⟩)] [[.tb]] (.nd) (.nd)) (.sq (.nd) (.sq (.sq (.nd) (.lp [2,7,9,50,51] [7] ⟨[(52,.i .i64)],[(2,.bx 44 [.li .u32 0,.li .u32 0,.li .u32 0,.c (.slice none 0 0)]),(9,.bx 252 [.sp 9,.sl .u 301500]),(301500,.ar 5 Fi)]⟩ [.ti,.tl Fi] [(1,⟨[(3,.li .i64 2)],[(2,.bx 44 [.li .u32 0,.li .u32 0,.li .u32 0,.c (.slice none 0 0)]),(9,.bx 252 [.sp 9,.sl .u 301525]),(301525,.ar 5 Fi)]⟩),(2,⟨[],[(2,.bx 44 [.li .u32 0,.li .u32 0,.li .u32 0,.c (.slice none 0 0)]),(9,.bx 252 [.sp 9,.sl .u 301535]),(301535,.ar 5 Fi)]⟩)] [[.tl Fi],[.tl Fi]] (.sq (.nd) (.sq (.nd) (.jn [52] [] [(0,⟨[],[(2,.bx 44 [.li .u32 0,.li .u32 0,.li .u32 0,.c (.slice none 0 0)]),(9,.bx 252 [.sp 9,.sl .u 301850]),(301850,.ar 5 Fi)]⟩),(1,⟨[(3,.li .i64 2)],[(2,.bx 44 [.li .u32 0,.li .u32 0,.li .u32 0,.c (.slice none 0 0)]),(9,.bx 252 [.sp 9,.sl .u 301500]),(301500,.ar 5 Fi)]⟩)] [[.tl Fi],[.tl Fi]] (.sq (.nd) (.jn [10] [2,9,301500] [(0,⟨[(12,.c (.nilIface))],[]⟩),(0,⟨[(12,.Aq 197 (.ag [.i .u32,.i .u32]))],[]⟩),(0,⟨[(12,.Aq 199 (.ag [.i .u32,.i .u32,.s]))],[]⟩),(0,⟨[(12,.Aq 192 (.ag [.i .u32,.i .u32,.i .u32,.i .u32,.i .u32,.i .u32]))],[]⟩),(0,⟨[(12,.Aq 78 (.ag [.i .u32,.i .u32,.i .u32]))],[]⟩)] [[],[.ti,.ti],[.ti,.ti,.ts],[.ti,.ti,.ti,.ti,.ti,.ti],[.ti,.ti,.ti]] (.nd) (.sq (.nd) (.sq (.jn [14] [2,9,14,301500] [(0,⟨[(82,.b)],[]⟩)] [[.tb]] (.nd) (.nd)) (.nd))))) (.nd)))))) (.sq (.jn [2,7,9] [2,7,9] [(0,⟨[(100,.b)],[(301535,.ar 2000005 Fi)]⟩)] [[.tb,.tl Fi]] (.mk [] [0,1,0,4,15,31,63,127,255,63,575,2047,4095]) (.nd)) (.nd)))))))))
theorem e96 (k:Nat)(hm:Mo.m=false)(y:Tup sv):EX Tryz.f96 A96 sv [] R96 n96 [nz k,qh k,oR k,ru k,gY k,ft k,iz k,gS k,pK k,rI k,qQ k,fW k,py k hm,iJ k,jK k,gL k,iH k] k y=kY k y:=by kernel_rfl
noncomputable def C96 (k:Nat)(hm:Mo.m=false):Ao Tryz.prog:=CK 96 Tryz.func96 (e96 k hm)
noncomputable def GL (k:Nat)(x1:Int)(x2:Int)(x3:Int)(x4:(List Ax))(y30:(Int × Int × Int × Int × Int × Int))(z144:(Int × Int × Int × Int × (List BV) × (List (Int × Int)))):Option ((Int × Int × Int × Int × (List BV) × (List (Int × Int))) ⊕ (Unit ⊕ ((List BV) × (List (Int × Int))))) :=
(((ix x4 z144.1).bind fun a145 =>
(ix a145.2.2.1 z144.2.1).bind fun a146 =>
Ai (decide ((z144.2.2.2.2.1.length+[(a146.1,a146.2.1,a146.2.2.1,a146.2.2.2)].length) * 32<=140737488355328)) <|
(ix x4 z144.1).bind fun a147 =>
Ai (decide ((z144.2.2.2.2.2.length+[(a147.1,(IntKind.wrap .i64 (z144.2.1+1)))].length) * 16<=140737488355328)) <|
cond (z144.2.2.2.1 == (IntKind.wrap .i64 y30.2.1)) (
some (.inr (.inr ((z144.2.2.2.2.1 ++ [(a146.1,a146.2.1,a146.2.2.1,a146.2.2.2)]),(z144.2.2.2.2.2 ++ [(a147.1,(IntKind.wrap .i64 (z144.2.1+1)))]))))) (
cond (decide (0 < z144.2.1)) (
some (.inl (z144.1,(IntKind.wrap .i64 (z144.2.1 - 1)),z144.2.2.1,(z144.2.2.2.2.1 ++ [(a146.1,a146.2.1,a146.2.2.1,a146.2.2.2)]),(z144.2.2.2.2.2 ++ [(a147.1,(IntKind.wrap .i64 (z144.2.1+1)))])))) (
((cond (z144.1 == 0) (
some true) (
cond (decide ((IntKind.wrap .i64 (x3 - 2)) < (IntKind.wrap .i64 (z144.2.2.1+1)))) (
some true) (
(ix x4 (IntKind.wrap .i64 (z144.1 - 1))).bind fun a148 =>
(ix x4 z144.1).bind fun a149 =>
cond ((IntKind.wrap .u32 (a148.2.1+1)) != a149.2.1) (
some true) (
(ix x4 (IntKind.wrap .i64 (z144.1 - 1))).bind fun a150 =>
(mC k x1 x2 x3).bind fun y151 =>
some ((a150.2.2.1.length:Int) != y151)))):Option Bool)).bind fun y152 =>
cond y152 (
some (.inr (.inl ()))) (
(ix x4 (IntKind.wrap .i64 (z144.1 - 1))).bind fun a153 =>
cond (decide ((IntKind.wrap .i64 ((a153.2.2.1.length:Int) - 1)) < 0)) (
some (.inr (.inl ()))) (
some (.inl ((IntKind.wrap .i64 (z144.1 - 1)),(IntKind.wrap .i64 ((a153.2.2.1.length:Int) - 1)),(IntKind.wrap .i64 (z144.2.2.1+1)),(z144.2.2.2.2.1 ++ [(a146.1,a146.2.1,a146.2.2.1,a146.2.2.2)]),(z144.2.2.2.2.2 ++ [(a147.1,(IntKind.wrap .i64 (z144.2.1+1)))]))))))):Option ((Int × Int × Int × (List BV) × (List (Int × Int))) ⊕ Unit ⊕ ((List BV) × (List (Int × Int)))))).bind fun y154 =>
BN (fun y155 =>
some (.inl (y155.1,y155.2.1,y155.2.2.1,(IntKind.wrap .i64 (z144.2.2.2.1+1)),y155.2.2.2.1,y155.2.2.2.2))) (fun y156 =>
BN (fun y157 =>
some (.inr (.inl ()))) (fun y158 =>
some (.inr (.inr (y158.1,y158.2)))) y156) y154
noncomputable def nh (k:Nat)(x1:Int)(x2:Int)(x3:Int)(x4:(List Ax))(x5:Int)(x6:Int):Option (Int × Int × Int × (List AY) × (List (Int × Int)) × Bool) :=
(((ix x4 x5).bind fun a12 =>
(ix a12.2.2.1 x6).bind fun a13 =>
(eE k a13.1 a13.2.1 a13.2.2.1 a13.2.2.2).bind fun y14 =>
BN (fun y15 =>
some (.inl ())) (fun y16 =>
BN (fun y17 =>
some (.inr (.inl (y17.1,y17.2.1)))) (fun y18 =>
BN (fun y19 =>
some (.inr (.inr (.inl (y19.1,y19.2.1,y19.2.2.1))))) (fun y20 =>
BN (fun y21 =>
some (.inr (.inr (.inr (.inl (y21.1,y21.2.1,y21.2.2.1,y21.2.2.2.1,y21.2.2.2.2.1,y21.2.2.2.2.2.1)))))) (fun y22 =>
some (.inr (.inr (.inr (.inr (y22.1,y22.2.1,y22.2.2.1)))))) y20) y18) y16) y14:Option Wp)).bind fun y23 =>
BN (fun y24 =>
some (0,0,0,([]:List AY),([]:List (Int × Int)),false)) (fun y25 =>
BN (fun y26 =>
some (0,0,0,([]:List AY),([]:List (Int × Int)),false)) (fun y27 =>
BN (fun y28 =>
some (0,0,0,([]:List AY),([]:List (Int × Int)),false)) (fun y29 =>
BN (fun y30 =>
(AE (GL k x1 x2 x3 x4 y30) k (x5,x6,1,0,([]:List BV),([]:List (Int × Int)))).bind fun y159 =>
BN (fun y160 =>
some (0,0,0,([]:List AY),([]:List (Int × Int)),false)) (fun y161 =>
(oB k y161.1).bind fun y163 =>
(nc k y161.2).bind fun y165 =>
(kY k y163).bind fun y167 =>
some (y167.1,y167.2.1,y167.2.2.1,y167.2.2.2.1,y165,(y167.2.2.2.2 == 0))) y159) (fun y31 =>
some (0,0,0,([]:List AY),([]:List (Int × Int)),false)) y29) y27) y25) y23
def A57:AQ:=⟨[.ag [.i .i64,.i .i64,.i .i64,.fz .u Ck],.i .i64,.i .i64],[]⟩
def sr:List Ah:=[.ti,.ti,.ti,.tl Ck,.ti,.ti]
def R57:List AP:=[⟨.tp [.ag [.i .u32,.i .u32,.i .u32,.fz .u CF,.fz .u Db],.b],[],[.ti,.ti,.ti,.tl CF,.tl Db,.tb]⟩]
def n57:An:=.sq (.nd) (.jn [1,2,3,6] [3,6] [(0,⟨[(8,.c (.nilIface))],[]⟩),(0,⟨[(8,.Aq 197 (.ag [.i .u32,.i .u32]))],[]⟩),(0,⟨[(8,.Aq 199 (.ag [.i .u32,.i .u32,.s]))],[]⟩),(0,⟨[(8,.Aq 192 (.ag [.i .u32,.i .u32,.i .u32,.i .u32,.i .u32,.i .u32]))],[]⟩),(0,⟨[(8,.Aq 78 (.ag [.i .u32,.i .u32,.i .u32]))],[]⟩)] [[],[.ti,.ti],[.ti,.ti,.ts],[.ti,.ti,.ti,.ti,.ti,.ti],[.ti,.ti,.ti]] (.nd) (.sq (.nd) (.sq (.nd) (.sq (.nd) (.sq (.nd) (.sq (.nd) (.sq (.sq (.nd) (.lp [3,6,10] [3,10] ⟨[(1,.i .i64),(2,.i .i64),(12,.sl .n 301200),(13,.sl .n 301201),(14,.i .i64),(15,.i .i64)],[(6,.bx 47 [.li .u32 0,.li .u32 0,.li .u32 0,.c (.slice none 0 0),.c (.slice none 0 0)]),(301200,.ar 54 DF),(301201,.ar 50 Db)]⟩ [.ti,.ti,.ti,.ti,.tl DF,.tl Db] [(1,⟨[(7,.lb false)],[(6,.bx 47 [.li .u32 0,.li .u32 0,.li .u32 0,.c (.slice none 0 0),.c (.slice none 0 0)])]⟩),(2,⟨[(12,.sl .n 301235),(13,.sl .n 301236)],[(6,.bx 47 [.li .u32 0,.li .u32 0,.li .u32 0,.c (.slice none 0 0),.c (.slice none 0 0)]),(301235,.ar 54 DF),(301236,.ar 50 Db)]⟩)] [[],[.tl DF,.tl Db]] (.jn [15] [] [(0,⟨[(1,.i .i64),(2,.i .i64),(12,.sl .n 301250),(13,.sl .n 301251),(14,.i .i64)],[(6,.bx 47 [.li .u32 0,.li .u32 0,.li .u32 0,.c (.slice none 0 0),.c (.slice none 0 0)]),(301250,.ar 54 DF),(301251,.ar 50 Db)]⟩),(1,⟨[(7,.lb false)],[(6,.bx 47 [.li .u32 0,.li .u32 0,.li .u32 0,.c (.slice none 0 0),.c (.slice none 0 0)])]⟩),(2,⟨[(12,.sl .n 301270),(13,.sl .n 301271)],[(6,.bx 47 [.li .u32 0,.li .u32 0,.li .u32 0,.c (.slice none 0 0),.c (.slice none 0 0)]),(301270,.ar 54 DF),(301271,.ar 50 Db)]⟩)] [[.ti,.ti,.ti,.tl DF,.tl Db],[],[.tl DF,.tl Db]] (.sq (.nd) (.sq (.nd) (.sq (.nd) (.sq (.nd) (.sq (.nd) (.sq (.jn [1,12,13,14] [6,52,64] [(0,⟨[(116,.b)],[]⟩)] [[.tb]] (.mk [] [0,1,3,7,7,23,55,119,255,511,1023,2047,4095,2047,10239,32767,65535,131071,262143,2047,526335,2047,3672063,7866367,16254975,33554431,67108863,134217727,268435455,536870911,268435455,1342177279,4294967295,8589934591,17179869183,34359738367,268435455,68987912191,206426865663,549755813887,1099511627775]) (.nd)) (.nd))))))) (.nd)))) (.sq (.nd) (.sq (.nd) (.sq (.fr [(1,301235)]) (.nd)))))))))))
theorem e57 (k:Nat)(hm:Mo.m=false)(y:Tup sr):EX Tryz.f57 A57 sr [] R57 n57 [nz k,C93 k,C94 k,C95 k,C96 k hm] k y=nh k y.1 y.2.1 y.2.2.1 y.2.2.2.1 y.2.2.2.2.1 y.2.2.2.2.2:=by kernel_rfl
noncomputable def C57 (k:Nat)(hm:Mo.m=false):Ao Tryz.prog:=CK 57 Tryz.func57 (e57 k hm)
noncomputable def Po (k:Nat)(a49:Ax)(x1:Int)(x2:Int)(x3:Int)(x4:(List Ax))(z48:(Int × (List Cp)))(z50:(Int × (List Cp))):Option ((Int × (List Cp)) ⊕ (List Cp)) :=
cond (decide (z50.1 < (a49.2.2.1.length:Int))) (
(((nh k x1 x2 x3 x4 z48.1 z50.1).bind fun y51 =>
cond y51.2.2.2.2.2 (
Ai (decide ((z50.2.length+[(y51.1,y51.2.1,y51.2.2.1,y51.2.2.2.1,y51.2.2.2.2.1)].length) * 64<=140737488355328)) <|
some (z50.2 ++ [(y51.1,y51.2.1,y51.2.2.1,y51.2.2.2.1,y51.2.2.2.2.1)])) (
some z50.2):Option (List Cp))).bind fun y52 =>
some (.inl ((IntKind.wrap .i64 (z50.1+1)),y52))) (
some (.inr z50.2))
noncomputable def Vl (k:Nat)(x1:Int)(x2:Int)(x3:Int)(x4:(List Ax))(z48:(Int × (List Cp))):Option ((Int × (List Cp)) ⊕ (List Cp)) :=
cond (decide (z48.1 < (x4.length:Int))) (
(ix x4 z48.1).bind fun a49 =>
(AE (Po k a49 x1 x2 x3 x4 z48) k (0,z48.2)).bind fun y53 =>
some (.inl ((IntKind.wrap .i64 (z48.1+1)),y53))) (
some (.inr z48.2))
noncomputable def jf (k:Nat)(x1:Int)(x2:Int)(x3:Int)(x4:(List Ax)):Option (List Cp) :=
(AE (Vl k x1 x2 x3 x4) k (0,([]:List Cp))).bind fun y54 =>
some y54
def A29:AQ:=⟨[.ag [.i .i64,.i .i64,.i .i64,.fz .u Ck]],[]⟩
def su:List Ah:=[.ti,.ti,.ti,.tl Ck]
def R29:List AP:=[⟨.sl .u 500000,[(500000,.ar 47 Cl)],[.tl Cl]⟩]
def n29:An:=.sq (.nd) (.sq (.nd) (.sq (.sq (.nd) (.lp [1,10,11] [1] ⟨[(3,.sl .n 300400),(12,.i .i64)],[(300400,.ar 47 Cl)]⟩ [.ti,.tl Cl] [(2,⟨[(3,.sl .n 300425)],[(300425,.ar 47 Cl)]⟩)] [[.tl Cl]] (.sq (.nd) (.sq (.nd) (.sq (.sq (.nd) (.sq (.nd) (.lp [4,12,19] [] ⟨[(3,.sl .n 301100),(20,.i .i64)],[(301100,.ar 47 Cl)]⟩ [.ti,.tl Cl] [(4,⟨[(3,.sl .n 301125)],[(301125,.ar 47 Cl)]⟩)] [[.tl Cl]] (.sq (.nd) (.sq (.nd) (.jn [20] [] [(0,⟨[(3,.sl .n 301450)],[(301450,.ar 47 Cl)]⟩)] [[.tl Cl]] (.nd) (.nd))))))) (.nd)))))) (.nd)))
theorem e29 (k:Nat)(hm:Mo.m=false)(y:Tup su):EX Tryz.f29 A29 su [] R29 n29 [C57 k hm] k y=jf k y.1 y.2.1 y.2.2.1 y.2.2.2:=by kernel_rfl
noncomputable def uG (k:Nat)(hm:Mo.m=false):Ao Tryz.prog:=CK 29 Tryz.func29 (e29 k hm)
noncomputable def uq (k:Nat):Option (Int × Int × Int × Bool) :=
some (0,0,0,false)
def A59:AQ:=⟨[.c (.nilIface)],[]⟩
def uS:List Ah:=[]
def R59:List AP:=[⟨.tp [.ag [.i .u32,.i .u32,.i .u32],.b],[],[.ti,.ti,.ti,.tb]⟩]
def n59:An:=.nd
theorem e59 (k:Nat)(y:Tup uS):EX Tryz.f59 A59 uS [] R59 n59 [] k y=uq k:=by kernel_rfl
noncomputable def C59 (k:Nat):Ao Tryz.prog:=CK 59 Tryz.func59 (e59 k)
noncomputable def fB (k:Nat)(x1:Int)(x2:Int):Option (Int × Int × Int × Bool) :=
some (0,0,0,false)
def ku:AQ:=⟨[.Aq 197 (.ag [.i .u32,.i .u32])],[]⟩
def eN:List Ah:=[.ti,.ti]
def mW:List AP:=[⟨.tp [.ag [.i .u32,.i .u32,.i .u32],.b],[],[.ti,.ti,.ti,.tb]⟩]
def kD:An:=.nd
theorem kV (k:Nat)(y:Tup eN):EX Tryz.f59 ku eN [] mW kD [] k y=fB k y.1 y.2:=by kernel_rfl
noncomputable def lJ (k:Nat):Ao Tryz.prog:=CK 59 Tryz.func59 (kV k)
noncomputable def eI (k:Nat)(x1:Int)(x2:Int)(x3:ByteArray):Option (Int × Int × Int × Bool) :=
some (0,0,0,false)
def mh:AQ:=⟨[.Aq 199 (.ag [.i .u32,.i .u32,.s])],[]⟩
def ez:List Ah:=[.ti,.ti,.ts]
def kv:List AP:=[⟨.tp [.ag [.i .u32,.i .u32,.i .u32],.b],[],[.ti,.ti,.ti,.tb]⟩]
def mV:An:=.nd
theorem mK (k:Nat)(y:Tup ez):EX Tryz.f59 mh ez [] kv mV [] k y=eI k y.1 y.2.1 y.2.2:=by kernel_rfl
noncomputable def nR (k:Nat):Ao Tryz.prog:=CK 59 Tryz.func59 (mK k)
noncomputable def eH (k:Nat)(x1:Int)(x2:Int)(x3:Int)(x4:Int)(x5:Int)(x6:Int):Option (Int × Int × Int × Bool) :=
some (0,0,0,false)
def jy:AQ:=⟨[.Aq 192 (.ag [.i .u32,.i .u32,.i .u32,.i .u32,.i .u32,.i .u32])],[]⟩
def ej:List Ah:=[.ti,.ti,.ti,.ti,.ti,.ti]
def mM:List AP:=[⟨.tp [.ag [.i .u32,.i .u32,.i .u32],.b],[],[.ti,.ti,.ti,.tb]⟩]
def kT:An:=.nd
theorem nV (k:Nat)(y:Tup ej):EX Tryz.f59 jy ej [] mM kT [] k y=eH k y.1 y.2.1 y.2.2.1 y.2.2.2.1 y.2.2.2.2.1 y.2.2.2.2.2:=by kernel_rfl
noncomputable def kW (k:Nat):Ao Tryz.prog:=CK 59 Tryz.func59 (nV k)
noncomputable def eM (k:Nat)(x1:Int)(x2:Int)(x3:Int):Option (Int × Int × Int × Bool) :=
some (x1,x2,x3,true)
def lP:AQ:=⟨[.Aq 78 (.ag [.i .u32,.i .u32,.i .u32])],[]⟩
def eS:List Ah:=[.ti,.ti,.ti]
def mj:List AP:=[⟨.tp [.ag [.i .u32,.i .u32,.i .u32],.b],[],[.ti,.ti,.ti,.tb]⟩]
def kR:An:=.nd
theorem mR (k:Nat)(y:Tup eS):EX Tryz.f59 lP eS [] mj kR [] k y=eM k y.1 y.2.1 y.2.2:=by kernel_rfl
noncomputable def nD (k:Nat):Ao Tryz.prog:=CK 59 Tryz.func59 (mR k)
noncomputable def Lq (k:Nat)(a583:Ax)(z584:(Int × Bool × Int × Int × Int × Int)):Option ((Int × Bool × Int × Int × Int × Int) ⊕ (Int × Bool × Int × Int × Int)) :=
cond (decide (z584.2.2.1 < (a583.2.2.1.length:Int))) (
(((ix a583.2.2.1 z584.2.2.1).bind fun a585 =>
(((eE k a585.1 a585.2.1 a585.2.2.1 a585.2.2.2).bind fun y586 =>
BN (fun y587 =>
some (.inl ())) (fun y588 =>
BN (fun y589 =>
some (.inr (.inl (y589.1,y589.2.1)))) (fun y590 =>
BN (fun y591 =>
some (.inr (.inr (.inl (y591.1,y591.2.1,y591.2.2.1))))) (fun y592 =>
BN (fun y593 =>
some (.inr (.inr (.inr (.inl (y593.1,y593.2.1,y593.2.2.1,y593.2.2.2.1,y593.2.2.2.2.1,y593.2.2.2.2.2.1)))))) (fun y594 =>
some (.inr (.inr (.inr (.inr (y594.1,y594.2.1,y594.2.2.1)))))) y592) y590) y588) y586:Option Wp)).bind fun y595 =>
BN (fun y596 =>
(uq k).bind fun y598 =>
((cond y598.2.2.2 (
cond (!z584.2.1) (
some true) (
cond (decide (z584.2.2.2.1 < y598.1)) (
some true) (
cond (y598.1 == z584.2.2.2.1) (
some (decide (z584.2.2.2.2.1<=y598.2.1))) (
some false)))) (
some false):Option Bool)).bind fun y599 =>
cond y599 (
some (a583.1,true,y598.1,y598.2.1,y598.2.2.1)) (
some (z584.1,z584.2.1,z584.2.2.2.1,z584.2.2.2.2.1,z584.2.2.2.2.2))) (fun y597 =>
BN (fun y600 =>
(fB k y600.1 y600.2).bind fun y602 =>
((cond y602.2.2.2 (
cond (!z584.2.1) (
some true) (
cond (decide (z584.2.2.2.1 < y602.1)) (
some true) (
cond (y602.1 == z584.2.2.2.1) (
some (decide (z584.2.2.2.2.1<=y602.2.1))) (
some false)))) (
some false):Option Bool)).bind fun y603 =>
cond y603 (
some (a583.1,true,y602.1,y602.2.1,y602.2.2.1)) (
some (z584.1,z584.2.1,z584.2.2.2.1,z584.2.2.2.2.1,z584.2.2.2.2.2))) (fun y601 =>
BN (fun y604 =>
(eI k y604.1 y604.2.1 y604.2.2).bind fun y606 =>
((cond y606.2.2.2 (
cond (!z584.2.1) (
some true) (
cond (decide (z584.2.2.2.1 < y606.1)) (
some true) (
cond (y606.1 == z584.2.2.2.1) (
some (decide (z584.2.2.2.2.1<=y606.2.1))) (
some false)))) (
some false):Option Bool)).bind fun y607 =>
cond y607 (
some (a583.1,true,y606.1,y606.2.1,y606.2.2.1)) (
some (z584.1,z584.2.1,z584.2.2.2.1,z584.2.2.2.2.1,z584.2.2.2.2.2))) (fun y605 =>
BN (fun y608 =>
(eH k y608.1 y608.2.1 y608.2.2.1 y608.2.2.2.1 y608.2.2.2.2.1 y608.2.2.2.2.2).bind fun y610 =>
((cond y610.2.2.2 (
cond (!z584.2.1) (
some true) (
cond (decide (z584.2.2.2.1 < y610.1)) (
some true) (
cond (y610.1 == z584.2.2.2.1) (
some (decide (z584.2.2.2.2.1<=y610.2.1))) (
some false)))) (
some false):Option Bool)).bind fun y611 =>
cond y611 (
some (a583.1,true,y610.1,y610.2.1,y610.2.2.1)) (
some (z584.1,z584.2.1,z584.2.2.2.1,z584.2.2.2.2.1,z584.2.2.2.2.2))) (fun y609 =>
(eM k y609.1 y609.2.1 y609.2.2).bind fun y612 =>
((cond y612.2.2.2 (
cond (!z584.2.1) (
some true) (
cond (decide (z584.2.2.2.1 < y612.1)) (
some true) (
cond (y612.1 == z584.2.2.2.1) (
some (decide (z584.2.2.2.2.1<=y612.2.1))) (
some false)))) (
some false):Option Bool)).bind fun y613 =>
cond y613 (
some (a583.1,true,y612.1,y612.2.1,y612.2.2.1)) (
some (z584.1,z584.2.1,z584.2.2.2.1,z584.2.2.2.2.1,z584.2.2.2.2.2))) y605) y601) y597) y595:Option (Int × Bool × Int × Int × Int))).bind fun y614 =>
some (.inl (y614.1,y614.2.1,(IntKind.wrap .i64 (z584.2.2.1+1)),y614.2.2.1,y614.2.2.2.1,y614.2.2.2.2))) (
some (.inr (z584.1,z584.2.1,z584.2.2.2.1,z584.2.2.2.2.1,z584.2.2.2.2.2)))
noncomputable def Pn (k:Nat)(x4:(List Ax))(z582:(Int × Bool × Int × Int × Int × Int)):Option ((Int × Bool × Int × Int × Int × Int) ⊕ (Int × Bool × Int × Int × Int)) :=
cond (decide (z582.2.2.1 < (x4.length:Int))) (
(ix x4 z582.2.2.1).bind fun a583 =>
(AE (Lq k a583) k (z582.1,z582.2.1,0,z582.2.2.2.1,z582.2.2.2.2.1,z582.2.2.2.2.2)).bind fun y615 =>
some (.inl (y615.1,y615.2.1,(IntKind.wrap .i64 (z582.2.2.1+1)),y615.2.2.1,y615.2.2.2.1,y615.2.2.2.2))) (
some (.inr (z582.1,z582.2.1,z582.2.2.2.1,z582.2.2.2.2.1,z582.2.2.2.2.2)))
noncomputable def jr (k:Nat)(x1:Int)(x2:Int)(x3:Int)(x4:(List Ax)):Option (Int × Int × Int × Int × Bool) :=
(AE (Pn k x4) k (0,false,0,0,0,0)).bind fun y616 =>
some (y616.2.2.1,y616.2.2.2.1,y616.2.2.2.2,y616.1,y616.2.1)
def A30:AQ:=⟨[.ag [.i .i64,.i .i64,.i .i64,.fz .u Ck]],[]⟩
def uT:List Ah:=[.ti,.ti,.ti,.tl Ck]
def R30:List AP:=[⟨.tp [.ag [.i .u32,.i .u32,.i .u32],.i .i64,.b],[],[.ti,.ti,.ti,.ti,.tb]⟩]
def n30:An:=.sq (.nd) (.sq (.nd) (.sq (.nd) (.sq (.sq (.nd) (.lp [2,5,17,18] [2] ⟨[(6,.i .i64),(7,.b),(19,.i .i64)],[(5,.bx 78 [.i .u32,.i .u32,.i .u32])]⟩ [.ti,.tb,.ti,.ti,.ti,.ti] [(2,⟨[(6,.i .i64),(7,.b)],[(5,.bx 78 [.i .u32,.i .u32,.i .u32])]⟩)] [[.ti,.tb,.ti,.ti,.ti]] (.sq (.nd) (.sq (.nd) (.sq (.sq (.nd) (.sq (.nd) (.lp [9,19,24,25] [9] ⟨[(6,.i .i64),(7,.b),(26,.i .i64)],[(5,.bx 78 [.i .u32,.i .u32,.i .u32])]⟩ [.ti,.tb,.ti,.ti,.ti,.ti] [(4,⟨[(6,.i .i64),(7,.b)],[(5,.bx 78 [.i .u32,.i .u32,.i .u32])]⟩)] [[.ti,.tb,.ti,.ti,.ti]] (.sq (.nd) (.sq (.nd) (.jn [26] [] [(0,⟨[(6,.i .i64),(7,.b)],[(5,.bx 78 [.i .u32,.i .u32,.i .u32])]⟩)] [[.ti,.tb,.ti,.ti,.ti]] (.sq (.nd) (.jn [6,7] [5] [(0,⟨[(12,.c (.nilIface))],[]⟩),(0,⟨[(12,.Aq 197 (.ag [.i .u32,.i .u32]))],[]⟩),(0,⟨[(12,.Aq 199 (.ag [.i .u32,.i .u32,.s]))],[]⟩),(0,⟨[(12,.Aq 192 (.ag [.i .u32,.i .u32,.i .u32,.i .u32,.i .u32,.i .u32]))],[]⟩),(0,⟨[(12,.Aq 78 (.ag [.i .u32,.i .u32,.i .u32]))],[]⟩)] [[],[.ti,.ti],[.ti,.ti,.ts],[.ti,.ti,.ti,.ti,.ti,.ti],[.ti,.ti,.ti]] (.nd) (.sq (.nd) (.jn [6,7,14] [5,14] [(0,⟨[(65,.b)],[]⟩)] [[.tb]] (.nd) (.sq (.mk [] [0,0,2,1,15,31]) (.nd)))))) (.nd))))))) (.nd)))))) (.nd))))
theorem e30 (k:Nat)(y:Tup uT):EX Tryz.f30 A30 uT [] R30 n30 [nz k,C59 k,lJ k,nR k,kW k,nD k] k y=jr k y.1 y.2.1 y.2.2.1 y.2.2.2:=by kernel_rfl
noncomputable def uY (k:Nat):Ao Tryz.prog:=CK 30 Tryz.func30 (e30 k)
noncomputable def aX (k:Nat){R:Type}(z11:((List (Int × Bool)) × ((List (Int × Bool)) × (List (Int × Bool)))))(Kin:((List (Int × Bool)) × ((List (Int × Bool)) × (List (Int × Bool))))->Option R)(Kout:((List (Int × Bool)) × (List (Int × Bool)))->Option R):Option R :=
cond z11.2.2.isEmpty (
Kout (z11.1,z11.2.1)) (
JB z11.2.2 fun j12=>fun a13 =>
Kin ((Bb z11.1 a13.1 true),(z11.2.1,(List.eraseIdx z11.2.2 j12))))
noncomputable def Px (k:Nat)(x5:(List (Int × Int)))(z23:(Int × (List (Int × Bool)))):Option ((Int × (List (Int × Bool))) ⊕ (List (Int × Bool))) :=
cond (decide (z23.1 < (x5.length:Int))) (
(ix x5 z23.1).bind fun a24 =>
some (.inl ((IntKind.wrap .i64 (z23.1+1)),(Bb z23.2 a24.1 true)))) (
some (.inr z23.2))
noncomputable def jd (k:Nat)(x1:Int)(x2:Int)(x3:Int)(x4:(List AY))(x5:(List (Int × Int)))(x6:(List (Int × Bool))):Option ((List (Int × Bool)) × (List (Int × Bool))) :=
EN (aX k) k (([]:List (Int × Bool)),(x6,x6)) fun y14 =>
(AE (Px k x5) k (0,y14.1)).bind fun y25 =>
some (y14.2,y25)
def A33:AQ:=⟨[.mp 1000000,.ag [.i .u32,.i .u32,.i .u32,.fz .u CF,.fz .u Db]],[(1000000,.mp ⟨(.i .i64),false,(.bool .nil)⟩)]⟩
def uc:List Ah:=[.ti,.ti,.ti,.tl CF,.tl Db,.tm ⟨(.i .i64),false,(.bool .nil)⟩]
def R33:List AP:=[⟨.mp 500000,[(1000000,.mp ⟨(.i .i64),false,(.bool .nil)⟩),(500000,.mp ⟨(.i .i64),false,(.bool .nil)⟩)],[.tm ⟨(.i .i64),false,(.bool .nil)⟩,.tm ⟨(.i .i64),false,(.bool .nil)⟩]⟩]
def n33:An:=.sq (.nd) (.sq (.nd) (.sq (.sq (.nd) (.lc [3,5,11] [3,11] ⟨[],[(9,.mp ⟨(.i .i64),false,(.bool .nil)⟩),(1000000,.mq ⟨(.i .i64),false,(.bool .nil)⟩ 11)]⟩ [.tm ⟨(.i .i64),false,(.bool .nil)⟩,.tq ⟨(.i .i64),false,(.bool .nil)⟩] [(2,⟨[],[(9,.mp ⟨(.i .i64),false,(.bool .nil)⟩),(1000000,.mp ⟨(.i .i64),false,(.bool .nil)⟩)]⟩)] [[.tm ⟨(.i .i64),false,(.bool .nil)⟩,.tm ⟨(.i .i64),false,(.bool .nil)⟩]] (.nd))) (.sq (.sq (.nd) (.lp [5,19,20] [1000000] ⟨[(21,.i .i64)],[(9,.mp ⟨(.i .i64),false,(.bool .nil)⟩)]⟩ [.ti,.tm ⟨(.i .i64),false,(.bool .nil)⟩] [(4,⟨[],[(9,.mp ⟨(.i .i64),false,(.bool .nil)⟩)]⟩)] [[.tm ⟨(.i .i64),false,(.bool .nil)⟩]] (.nd))) (.nd))))
theorem e33 (k:Nat)(y:Tup uc):EX Tryz.f33 A33 uc [] R33 n33 [] k y=jd k y.1 y.2.1 y.2.2.1 y.2.2.2.1 y.2.2.2.2.1 y.2.2.2.2.2:=by kernel_rfl
noncomputable def pa (k:Nat):Ao Tryz.prog:=CK 33 Tryz.func33 (e33 k)
noncomputable def nr (k:Nat)(x1:Int)(x2:Int)(x3:Int)(x4:(List AY))(x5:(List (Int × Int)))(x6:Int)(x7:Int)(x8:Int)(x9:Int)(x10:(List (Int × Bool))):Option (Bool × (List (Int × Bool))) :=
cond (x1 == x6) (
(jd k x1 x2 x3 x4 x5 x10).bind fun y1 =>
some ((decide ((y1.2.length:Int) < x9)),y1.1)) (
some (false,x10))
def A32:AQ:=⟨[.ag [.i .u32,.i .u32,.i .u32,.fz .u CF,.fz .u Db],.pt 1000000 0,.pt 1000001 0,.pt 1000002 0],[(1000000,.bx 31 [.i .u32]),(1000001,.bx 81 [.mp 1000003]),(1000002,.bx 23 [.i .i64,.i .i64,.i .i64]),(1000003,.mp ⟨(.i .i64),false,(.bool .nil)⟩)]⟩
def ta:List Ah:=[.ti,.ti,.ti,.tl CF,.tl Db,.ti,.ti,.ti,.ti,.tm ⟨(.i .i64),false,(.bool .nil)⟩]
def R32:List AP:=[⟨.b,[(1000003,.mp ⟨(.i .i64),false,(.bool .nil)⟩)],[.tb,.tm ⟨(.i .i64),false,(.bool .nil)⟩]⟩]
def n32:An:=.sq (.nd) (.sq (.mk [] [0,1,3,0,15,31,63,63,255,511,63,1087,4095,8191,16383]) (.nd))
theorem e32 (k:Nat)(y:Tup ta):EX Tryz.f32 A32 ta [1000000,1000001,1000002] R32 n32 [pa k] k y=nr k y.1 y.2.1 y.2.2.1 y.2.2.2.1 y.2.2.2.2.1 y.2.2.2.2.2.1 y.2.2.2.2.2.2.1 y.2.2.2.2.2.2.2.1 y.2.2.2.2.2.2.2.2.1 y.2.2.2.2.2.2.2.2.2:=by kernel_rfl
noncomputable def C32 (k:Nat):Ao Tryz.prog:=CK 32 Tryz.func32 (e32 k)
noncomputable def Qz (k:Nat)(x1:(List Cp))(x2:Int)(x3:Int)(x4:Int)(x5:Int)(z34:(Int × (List (Int × Bool)))):Option ((Int × (List (Int × Bool))) ⊕ ((Int × Int × Int × (List AY) × (List (Int × Int)) × (List (Int × Bool))) ⊕ (List (Int × Bool)))) :=
cond (decide (0<=z34.1)) (
(ix x1 z34.1).bind fun a35 =>
(x1[z34.1.toNat]?).bind fun a36 =>
(nr k a36.1 a36.2.1 a36.2.2.1 a36.2.2.2.1 a36.2.2.2.2 x2 x3 x4 x5 z34.2).bind fun y37 =>
cond y37.1 (
(ix x1 z34.1).bind fun a38 =>
(x1[z34.1.toNat]?).bind fun a39 =>
some (.inr (.inl (a39.1,a39.2.1,a39.2.2.1,a39.2.2.2.1,a39.2.2.2.2,y37.2)))) (
some (.inl ((IntKind.wrap .i64 (z34.1 - 1)),y37.2)))) (
some (.inr (.inr z34.2)))
noncomputable def lf (k:Nat)(x1:(List Cp))(x2:Int)(x3:Int)(x4:Int)(x5:Int)(x6:(List (Int × Bool))):Option (Int × Int × Int × (List AY) × (List (Int × Int)) × Bool × (List (Int × Bool))) :=
(AE (Qz k x1 x2 x3 x4 x5) k ((IntKind.wrap .i64 ((x1.length:Int) - 1)),x6)).bind fun y40 =>
BN (fun y41 =>
some (y41.1,y41.2.1,y41.2.2.1,y41.2.2.2.1,y41.2.2.2.2.1,true,y41.2.2.2.2.2)) (fun y42 =>
some (0,0,0,([]:List AY),([]:List (Int × Int)),false,y42)) y40
def A31:AQ:=⟨[.sl .u 1000000,.fn 32 [.pt 1000001 0,.pt 1000002 0,.pt 1000003 0]],[(1000000,.ar 47 Cl),(1000001,.bx 31 [.i .u32]),(1000002,.bx 81 [.mp 1000004]),(1000003,.bx 23 [.i .i64,.i .i64,.i .i64]),(1000004,.mp ⟨(.i .i64),false,(.bool .nil)⟩)]⟩
def uP:List Ah:=[.tl Cl,.ti,.ti,.ti,.ti,.tm ⟨(.i .i64),false,(.bool .nil)⟩]
def R31:List AP:=[⟨.tp [.ag [.i .u32,.i .u32,.i .u32,.fz .u CF,.fz .u Db],.b],[(1000004,.mp ⟨(.i .i64),false,(.bool .nil)⟩)],[.ti,.ti,.ti,.tl CF,.tl Db,.tb,.tm ⟨(.i .i64),false,(.bool .nil)⟩]⟩]
def n31:An:=.sq (.nd) (.sq (.sq (.nd) (.lp [0,1,4] [] ⟨[(6,.i .i64)],[(4,.bx 47 [.li .u32 0,.li .u32 0,.li .u32 0,.c (.slice none 0 0),.c (.slice none 0 0)]),(1000004,.mp ⟨(.i .i64),false,(.bool .nil)⟩)]⟩ [.ti,.tm ⟨(.i .i64),false,(.bool .nil)⟩] [(1,⟨[(5,.lb true)],[(4,.bx 47 [.i .u32,.i .u32,.i .u32,.fz .u CF,.fz .u Db]),(1000004,.mp ⟨(.i .i64),false,(.bool .nil)⟩)]⟩),(2,⟨[],[(4,.bx 47 [.li .u32 0,.li .u32 0,.li .u32 0,.c (.slice none 0 0),.c (.slice none 0 0)]),(1000004,.mp ⟨(.i .i64),false,(.bool .nil)⟩)]⟩)] [[.ti,.ti,.ti,.tl CF,.tl Db,.tm ⟨(.i .i64),false,(.bool .nil)⟩],[.tm ⟨(.i .i64),false,(.bool .nil)⟩]] (.nd))) (.nd))
theorem e31 (k:Nat)(y:Tup uP):EX Tryz.f31 A31 uP [1000000,1000001,1000002,1000003] R31 n31 [C32 k] k y=lf k y.1 y.2.1 y.2.2.1 y.2.2.2.1 y.2.2.2.2.1 y.2.2.2.2.2:=by kernel_rfl
noncomputable def uX (k:Nat):Ao Tryz.prog:=CK 31 Tryz.func31 (e31 k)
noncomputable def nH (k:Nat)(z48:(Int × Int × (List Cp))):Option ((Int × Int × (List Cp)) ⊕ (List Cp)) :=
cond (decide (z48.1 < z48.2.1)) (
(ix z48.2.2 z48.2.1).bind fun a49 =>
(z48.2.2[z48.2.1.toNat]?).bind fun a50 =>
(ix z48.2.2 z48.1).bind fun a51 =>
(z48.2.2[z48.1.toNat]?).bind fun a52 =>
(ix z48.2.2 z48.1).bind fun a53 =>
((z48.2.2[z48.1.toNat]?).bind fun a54=>some (a50.1,a50.2.1,a50.2.2.1,a50.2.2.2.1,a50.2.2.2.2)).bind fun a55 =>
(ix (z48.2.2.set z48.1.toNat a55) z48.2.1).bind fun a56 =>
(((z48.2.2.set z48.1.toNat a55)[z48.2.1.toNat]?).bind fun a57=>some (a52.1,a52.2.1,a52.2.2.1,a52.2.2.2.1,a52.2.2.2.2)).bind fun a58 =>
some (.inl ((IntKind.wrap .i64 (z48.1+1)),(IntKind.wrap .i64 (z48.2.1 - 1)),((z48.2.2.set z48.1.toNat a55).set z48.2.1.toNat a58)))) (
some (.inr z48.2.2))
noncomputable def ju (k:Nat)(x1:(List Cp)):Option (List Cp) :=
(AE (nH k) k (0,(IntKind.wrap .i64 ((x1.length:Int) - 1)),x1)).bind fun y59 =>
some y59
def A34:AQ:=⟨[.sl .u 1000000],[(1000000,.ar 47 Cl)]⟩
def tR:List Ah:=[.tl Cl]
def R34:List AP:=[⟨.tp [],[(1000000,.ar 47 Cl)],[.tl Cl]⟩]
def n34:An:=.sq (.nd) (.lp [0] [] ⟨[(2,.i .i64),(3,.i .i64)],[(1000000,.ar 47 Cl)]⟩ [.ti,.ti,.tl Cl] [(2,⟨[],[(1000000,.ar 47 Cl)]⟩)] [[.tl Cl]] (.sq (.nd) (.sq (.mk [] [0,0,0,0,0,0,48,112,0,0,768,1792,4083,8179,16383,32767]) (.nd))))
theorem e34 (k:Nat)(y:Tup tR):EX Tryz.f34 A34 tR [] R34 n34 [] k y=ju k y:=by kernel_rfl
noncomputable def tU (k:Nat):Ao Tryz.prog:=CK 34 Tryz.func34 (e34 k)
noncomputable def jq (k:Nat)(x1:(List Int)):Option (List Int) :=
Vr x1
def A35:AQ:=⟨[.sl .u 1000000],[(1000000,.ar 3 Bm)]⟩
def h35:List Ah:=[.tl Bm]
def R35:List AP:=[⟨.tp [],[(1000000,.ar 3 Bm)],[.tl Bm]⟩]
noncomputable def tj (k:Nat):Ao Tryz.prog:=⟨35,Tryz.f35,Tryz.func35,by kernel_rfl,by kernel_rfl,A35,h35,[],R35,fun y=>jq k y,fun y r h=>by
 have h2:Vr y=some r:=h
 exact MJ.sortInt (ρ:=Tryz.lays189_ren) Tryz.lays189 3 (by decide) h2⟩
noncomputable def lu (k:Nat)(x1:Int)(x2:Int):Option Int :=
some 1
def sG:AQ:=⟨[.ag [.i .u32,.i .u32]],[]⟩
def lE:List Ah:=[.ti,.ti]
def qd:List AP:=[⟨.i .i64,[],[.ti]⟩]
def n219:An:=.nd
theorem sJ (k:Nat)(y:Tup lE):EX Tryz.f219 sG lE [] qd n219 [] k y=lu k y.1 y.2:=by kernel_rfl
noncomputable def sA (k:Nat):Ao Tryz.prog:=CK 219 Tryz.func219 (sJ k)
noncomputable def kP (k:Nat)(x1:Int)(x2:Int)(x3:ByteArray):Option Int :=
some 2
def pc:AQ:=⟨[.ag [.i .u32,.i .u32,.s]],[]⟩
def lX:List Ah:=[.ti,.ti,.ts]
def oV:List AP:=[⟨.i .i64,[],[.ti]⟩]
def n220:An:=.nd
theorem sM (k:Nat)(y:Tup lX):EX Tryz.f220 pc lX [] oV n220 [] k y=kP k y.1 y.2.1 y.2.2:=by kernel_rfl
noncomputable def rB (k:Nat):Ao Tryz.prog:=CK 220 Tryz.func220 (sM k)
noncomputable def kf (k:Nat)(x1:Int)(x2:Int)(x3:Int)(x4:Int)(x5:Int)(x6:Int):Option Int :=
some 3
def qC:AQ:=⟨[.ag [.i .u32,.i .u32,.i .u32,.i .u32,.i .u32,.i .u32]],[]⟩
def lW:List Ah:=[.ti,.ti,.ti,.ti,.ti,.ti]
def qn:List AP:=[⟨.i .i64,[],[.ti]⟩]
def n218:An:=.nd
theorem pn (k:Nat)(y:Tup lW):EX Tryz.f218 qC lW [] qn n218 [] k y=kf k y.1 y.2.1 y.2.2.1 y.2.2.2.1 y.2.2.2.2.1 y.2.2.2.2.2:=by kernel_rfl
noncomputable def oj (k:Nat):Ao Tryz.prog:=CK 218 Tryz.func218 (pn k)
noncomputable def lq (k:Nat)(x1:Int)(x2:Int)(x3:Int):Option Int :=
some 4
def qg:AQ:=⟨[.ag [.i .u32,.i .u32,.i .u32]],[]⟩
def mA:List Ah:=[.ti,.ti,.ti]
def rA:List AP:=[⟨.i .i64,[],[.ti]⟩]
def n217:An:=.nd
theorem qB (k:Nat)(y:Tup mA):EX Tryz.f217 qg mA [] rA n217 [] k y=lq k y.1 y.2.1 y.2.2:=by kernel_rfl
noncomputable def sR (k:Nat):Ao Tryz.prog:=CK 217 Tryz.func217 (qB k)
noncomputable def MD (k:Nat)(a601:Ax)(x6:(List (Int × Bool)))(z602:(Int × Int)):Option ((Int × Int) ⊕ Int) :=
cond (decide (z602.2 < (a601.2.2.1.length:Int))) (
(((ix a601.2.2.1 z602.2).bind fun a603 =>
(((eE k a603.1 a603.2.1 a603.2.2.1 a603.2.2.2).bind fun y604 =>
BN (fun y605 =>
some (.inl ())) (fun y606 =>
BN (fun y607 =>
some (.inr (.inl (y607.1,y607.2.1)))) (fun y608 =>
BN (fun y609 =>
some (.inr (.inr (.inl (y609.1,y609.2.1,y609.2.2.1))))) (fun y610 =>
BN (fun y611 =>
some (.inr (.inr (.inr (.inl (y611.1,y611.2.1,y611.2.2.1,y611.2.2.2.1,y611.2.2.2.2.1,y611.2.2.2.2.2.1)))))) (fun y612 =>
some (.inr (.inr (.inr (.inr (y612.1,y612.2.1,y612.2.2.1)))))) y610) y608) y606) y604:Option Wp)).bind fun y613 =>
BN (fun y614 =>
(((some ((Ae DQ x6 a601.1).getD false,(Ae DQ x6 a601.1).isSome)).bind fun a616 =>
cond a616.1 (
some ()) (
some ()):Option Unit)).bind fun y617 =>
some z602.1) (fun y615 =>
BN (fun y618 =>
(((some ((Ae DQ x6 a601.1).getD false,(Ae DQ x6 a601.1).isSome)).bind fun a620 =>
cond a620.1 (
(lu k y618.1 y618.2).bind fun y621 =>
some (y621 != 1)) (
some false):Option Bool)).bind fun y622 =>
cond y622 (
some (mx z602.1 a603.2.1)) (
some z602.1)) (fun y619 =>
BN (fun y623 =>
(((some ((Ae DQ x6 a601.1).getD false,(Ae DQ x6 a601.1).isSome)).bind fun a625 =>
cond a625.1 (
(kP k y623.1 y623.2.1 y623.2.2).bind fun y626 =>
some (y626 != 1)) (
some false):Option Bool)).bind fun y627 =>
cond y627 (
some (mx z602.1 a603.2.1)) (
some z602.1)) (fun y624 =>
BN (fun y628 =>
(((some ((Ae DQ x6 a601.1).getD false,(Ae DQ x6 a601.1).isSome)).bind fun a630 =>
cond a630.1 (
(kf k y628.1 y628.2.1 y628.2.2.1 y628.2.2.2.1 y628.2.2.2.2.1 y628.2.2.2.2.2).bind fun y631 =>
some (y631 != 1)) (
some false):Option Bool)).bind fun y632 =>
cond y632 (
some (mx z602.1 a603.2.1)) (
some z602.1)) (fun y629 =>
(((some ((Ae DQ x6 a601.1).getD false,(Ae DQ x6 a601.1).isSome)).bind fun a633 =>
cond a633.1 (
(lq k y629.1 y629.2.1 y629.2.2).bind fun y634 =>
some (y634 != 1)) (
some false):Option Bool)).bind fun y635 =>
cond y635 (
some (mx z602.1 a603.2.1)) (
some z602.1)) y624) y619) y615) y613:Option Int)).bind fun y636 =>
some (.inl (y636,(IntKind.wrap .i64 (z602.2+1))))) (
some (.inr z602.1))
noncomputable def Vc (k:Nat)(x4:(List Ax))(x6:(List (Int × Bool)))(z600:(Int × Int)):Option ((Int × Int) ⊕ Int) :=
cond (decide (z600.2 < (x4.length:Int))) (
(ix x4 z600.2).bind fun a601 =>
(AE (MD k a601 x6) k (z600.1,0)).bind fun y637 =>
some (.inl (y637,(IntKind.wrap .i64 (z600.2+1))))) (
some (.inr z600.1))
noncomputable def ji (k:Nat)(x1:Int)(x2:Int)(x3:Int)(x4:(List Ax))(x5:Int)(x6:(List (Int × Bool))):Option Int :=
(AE (Vc k x4 x6) k (x5,0)).bind fun y638 =>
some (IntKind.wrap .u32 (y638+1))
def A36:AQ:=⟨[.ag [.i .i64,.i .i64,.i .i64,.fz .u Ck],.mp 1000000,.i .u32],[(1000000,.mp ⟨(.i .i64),false,(.bool .nil)⟩)]⟩
def sn:List Ah:=[.ti,.ti,.ti,.tl Ck,.ti,.tm ⟨(.i .i64),false,(.bool .nil)⟩]
def R36:List AP:=[⟨.i .u32,[],[.ti]⟩]
def n36:An:=.sq (.nd) (.sq (.sq (.nd) (.lp [1,14,15] [] ⟨[(2,.i .u32),(16,.i .i64)],[]⟩ [.ti,.ti] [(2,⟨[(2,.i .u32)],[]⟩)] [[.ti]] (.sq (.nd) (.sq (.nd) (.sq (.sq (.nd) (.sq (.nd) (.lp [8,16,21,22] [8] ⟨[(2,.i .u32),(23,.i .i64)],[]⟩ [.ti,.ti] [(4,⟨[(2,.i .u32)],[]⟩)] [[.ti]] (.sq (.nd) (.sq (.nd) (.jn [23] [] [(0,⟨[(2,.i .u32)],[]⟩)] [[.ti]] (.sq (.nd) (.jn [2,10] [10] [(0,⟨[(11,.c (.nilIface))],[]⟩),(0,⟨[(11,.Aq 197 (.ag [.i .u32,.i .u32]))],[]⟩),(0,⟨[(11,.Aq 199 (.ag [.i .u32,.i .u32,.s]))],[]⟩),(0,⟨[(11,.Aq 192 (.ag [.i .u32,.i .u32,.i .u32,.i .u32,.i .u32,.i .u32]))],[]⟩),(0,⟨[(11,.Aq 78 (.ag [.i .u32,.i .u32,.i .u32]))],[]⟩)] [[],[.ti,.ti],[.ti,.ti,.ts],[.ti,.ti,.ti,.ti,.ti,.ti],[.ti,.ti,.ti]] (.nd) (.al 11 (.jn [2,10] [10] [(0,⟨[(44,.lb false)],[]⟩)] [[]] (.nd) (.nd)) (.jn [2,10] [10] [(0,⟨[(44,.b)],[]⟩)] [[.tb]] (.nd) (.nd))))) (.nd))))))) (.nd)))))) (.nd))
theorem e36 (k:Nat)(y:Tup sn):EX Tryz.f36 A36 sn [1000000] R36 n36 [nz k,sA k,rB k,oj k,sR k] k y=ji k y.1 y.2.1 y.2.2.1 y.2.2.2.1 y.2.2.2.2.1 y.2.2.2.2.2:=by kernel_rfl
noncomputable def tF (k:Nat):Ao Tryz.prog:=CK 36 Tryz.func36 (e36 k)
noncomputable def MO (k:Nat)(y4:(List Cp))(z20:(Int × Int)):Option ((Int × Int) ⊕ Int) :=
cond (decide (z20.2 < (y4.length:Int))) (
(ix y4 z20.2).bind fun a21 =>
(y4[z20.2.toNat]?).bind fun a22 =>
some (.inl ((mx z20.1 a22.1),(IntKind.wrap .i64 (z20.2+1))))) (
some (.inr z20.1))
noncomputable def Ju (k:Nat)(x1:Int)(x2:Int)(x3:Int)(y4:(List Cp))(z46:(Int × Int × Int × Int × (List Cp) × (List (Int × Bool)))):Option ((Int × Int × Int × Int × (List Cp) × (List (Int × Bool))) ⊕ (Int × Int × Int × (List Cp) × (List (Int × Bool)))) :=
cond (decide (z46.1 < z46.2.2.2.1)) (
(lf k y4 z46.2.2.2.1 x1 x2 x3 z46.2.2.2.2.2).bind fun y47 =>
cond (!y47.2.2.2.2.2.1) (
some (.inr (z46.2.2.2.1,(mx z46.2.1 z46.2.2.2.1),z46.2.2.1,z46.2.2.2.2.1,y47.2.2.2.2.2.2))) (
Ai (decide ((z46.2.2.2.2.1.length+[(y47.1,y47.2.1,y47.2.2.1,y47.2.2.2.1,y47.2.2.2.2.1)].length) * 64<=140737488355328)) <|
(jd k y47.1 y47.2.1 y47.2.2.1 y47.2.2.2.1 y47.2.2.2.2.1 y47.2.2.2.2.2.2).bind fun y48 =>
some (.inl (z46.1,z46.2.1,z46.2.2.1,y47.2.1,(z46.2.2.2.2.1 ++ [(y47.1,y47.2.1,y47.2.2.1,y47.2.2.2.1,y47.2.2.2.2.1)]),y48.2)))) (
some (.inr (z46.1,z46.2.1,z46.2.2.1,z46.2.2.2.2.1,z46.2.2.2.2.2)))
noncomputable def MK (k:Nat){R:Type}(z64:(Int × Int × Int × ((List (Int × Bool)) × (List (Int × Bool))) × (List Int)))(Kin:(Int × Int × Int × ((List (Int × Bool)) × (List (Int × Bool))) × (List Int))->Option R)(Kout:(Int × Int × Int × (List (Int × Bool)) × (List Int))->Option R):Option R :=
cond z64.2.2.2.1.2.isEmpty (
Kout (z64.1,z64.2.1,z64.2.2.1,z64.2.2.2.1.1,z64.2.2.2.2)) (
JB z64.2.2.2.1.2 fun j65=>fun a66 =>
Ai (decide ((z64.2.2.2.2.length+[a66.1].length) * 8<=140737488355328)) <|
Kin (z64.1,z64.2.1,z64.2.2.1,(z64.2.2.2.1.1,(List.eraseIdx z64.2.2.2.1.2 j65)),(z64.2.2.2.2 ++ [a66.1])))
noncomputable def jl (k:Nat)(x1:Int)(x2:Int)(x3:Int)(x4:(List Ax)):Option (Int × Int × Int × (List Cp) × (List Int) × Int × Int) :=
(nt k x1 x2 x3 x4).bind fun y2 =>
(jf k y2.1 y2.2.1 y2.2.2.1 y2.2.2.2).bind fun y4 =>
(jr k y2.1 y2.2.1 y2.2.2.1 y2.2.2.2).bind fun y6 =>
((cond y6.2.2.2.2 (
some (Bb ([]:List (Int × Bool)) y6.2.2.2.1 true)) (
some ([]:List (Int × Bool))):Option (List (Int × Bool)))).bind fun y7 =>
(AE (MO k y4) k (0,0)).bind fun y23 =>
(AE (Ju k x1 x2 x3 y4) k (y6.1,y6.2.2.1,y6.2.1,y23,([]:List Cp),y7)).bind fun y49 =>
(ju k y49.2.2.2.1).bind fun y51 =>
EN (MK k) k (y49.1,y49.2.1,y49.2.2.1,(y49.2.2.2.2,y49.2.2.2.2),([]:List Int)) fun y67 =>
(jq k y67.2.2.2.2).bind fun y69 =>
((cond (decide (0 < (y51.length:Int))) (
(ix y51 (IntKind.wrap .i64 ((y51.length:Int) - 1))).bind fun a72 =>
(y51[(IntKind.wrap .i64 ((y51.length:Int) - 1)).toNat]?).bind fun a73 =>
some (y67.1,y67.2.1,y67.2.2.1,(mx y67.1 a73.1))) (
some (y67.1,y67.2.1,y67.2.2.1,y67.1)):Option (Int × Int × Int × Int))).bind fun y74 =>
(ji k y2.1 y2.2.1 y2.2.2.1 y2.2.2.2 y74.2.2.2 y67.2.2.2.1).bind fun y76 =>
some (y74.1,y74.2.1,y74.2.2.1,y51,y69,y74.2.2.2,y76)
def A13:AQ:=⟨[.ag [.i .i64,.i .i64,.i .i64],.fz .u Ck],[]⟩
def tP:List Ah:=[.ti,.ti,.ti,.tl Ck]
def R13:List AP:=[⟨.ag [.i .u32,.i .u32,.i .u32,.fz .u Cl,.fz .u Bm,.i .u32,.i .u32],[],[.ti,.ti,.ti,.tl Cl,.tl Bm,.ti,.ti]⟩]
def n13:An:=.sq (.nd) (.sq (.nd) (.sq (.nd) (.sq (.nd) (.sq (.nd) (.sq (.nd) (.jn [2,4,5,6,10,11] [2,4,5,10,11,402400] [(0,⟨[],[(38,.mp ⟨(.i .i64),false,(.bool .nil)⟩)]⟩)] [[.tm ⟨(.i .i64),false,(.bool .nil)⟩]] (.nd) (.sq (.nd) (.sq (.sq (.nd) (.lp [2,4,5,6,10,11,42,43] [2,4,5,10,11,38,402400] ⟨[(12,.i .u32),(44,.i .i64)],[]⟩ [.ti,.ti] [(2,⟨[(12,.i .u32)],[]⟩)] [[.ti]] (.nd))) (.sq (.sq (.nd) (.lp [2,4,5,6,10,11] [2,4,5,402400] ⟨[(15,.pt 302050 0)],[(10,.bx 35 [.i .u32,.i .u32,.i .u32,.sl .n 302051,.c (.slice none 0 0),.li .u32 0,.li .u32 0]),(11,.bx 81 [.mp 302052]),(302050,.bx 31 [.i .u32]),(302051,.ar 47 Cl),(302052,.mp ⟨(.i .i64),false,(.bool .nil)⟩)]⟩ [.ti,.ti,.ti,.ti,.tl Cl,.tm ⟨(.i .i64),false,(.bool .nil)⟩] [(4,⟨[],[(10,.bx 35 [.i .u32,.i .u32,.i .u32,.sl .n 302075,.c (.slice none 0 0),.li .u32 0,.li .u32 0]),(11,.bx 81 [.mp 302076]),(302075,.ar 47 Cl),(302076,.mp ⟨(.i .i64),false,(.bool .nil)⟩)]⟩)] [[.ti,.ti,.ti,.tl Cl,.tm ⟨(.i .i64),false,(.bool .nil)⟩]] (.sq (.nd) (.sq (.sq (.nd) (.sq (.sq (.nd) (.sq (.sq (.mk [] [0,0,2,0,14,7,39,127,255]) (.nd)) (.nd))) (.nd))) (.nd))))) (.sq (.nd) (.sq (.sq (.nd) (.lc [4,5,10,11,91] [4,5,11,91,302075] ⟨[],[(10,.bx 35 [.i .u32,.i .u32,.i .u32,.sl .n 302075,.sl .n 303700,.li .u32 0,.li .u32 0]),(302076,.mq ⟨(.i .i64),false,(.bool .nil)⟩ 91),(303700,.ar 3 Bm)]⟩ [.ti,.ti,.ti,.tq ⟨(.i .i64),false,(.bool .nil)⟩,.tl Bm] [(6,⟨[],[(10,.bx 35 [.i .u32,.i .u32,.i .u32,.sl .n 302075,.sl .n 303725,.li .u32 0,.li .u32 0]),(302076,.mp ⟨(.i .i64),false,(.bool .nil)⟩),(303725,.ar 3 Bm)]⟩)] [[.ti,.ti,.ti,.tm ⟨(.i .i64),false,(.bool .nil)⟩,.tl Bm]] (.nd))) (.sq (.nd) (.sq (.nd) (.jn [4,5,10,11] [4,5,11,302075,302076,303725] [(0,⟨[],[(10,.bx 35 [.i .u32,.i .u32,.i .u32,.sl .n 302075,.sl .n 303725,.i .u32,.li .u32 0])]⟩)] [[.ti,.ti,.ti,.ti]] (.sq (.nd) (.sq (.nd) (.sq (.mk [] [0,1,0,4,0,16,60,124,252,508,1023,2047,4095]) (.nd)))) (.nd)))))))))))))))
theorem e13 (k:Nat)(hm:Mo.m=false)(y:Tup tP):EX Tryz.f13 A13 tP [] R13 n13 [C28 k,uG k hm,uY k,uX k,pa k,tU k,tj k,tF k] k y=jl k y.1 y.2.1 y.2.2.1 y.2.2.2:=by kernel_rfl
noncomputable def qO (k:Nat)(hm:Mo.m=false):Ao Tryz.prog:=CK 13 Tryz.func13 (e13 k hm)
noncomputable def jm (k:Nat):Option Bool :=
(jl k 32 3 4 ([]:List Ax)).bind fun y2 =>
cond (y2.2.2.2.2.2.2 == 1) (
cond (y2.2.2.2.2.2.1 == 0) (
cond (y2.1 == 0) (
cond ((y2.2.2.2.1.length:Int) == 0) (
some ((y2.2.2.2.2.1.length:Int) == 0)) (
some false)) (
some false)) (
some false)) (
some false)
def A11:AQ:=⟨[],[]⟩
def uU:List Ah:=[]
def R11:List AP:=[⟨.b,[],[.tb]⟩]
def n11:An:=.nd
theorem e11 (k:Nat)(hm:Mo.m=false)(y:Tup uU):EX Tryz.f11 A11 uU [] R11 n11 [qO k hm] k y=jm k:=by kernel_rfl
noncomputable def pC (k:Nat)(hm:Mo.m=false):Ao Tryz.prog:=CK 11 Tryz.func11 (e11 k hm)
noncomputable def LD (k:Nat)(x4:(List Ax))(z30:(Int × (List (Int × Ax)))):Option ((Int × (List (Int × Ax))) ⊕ (List (Int × Ax))) :=
cond (decide (z30.1 < (x4.length:Int))) (
(((ix x4 z30.1).bind fun a31 =>
(x4[z30.1.toNat]?).bind fun a32 =>
(some ((Ae DQ z30.2 a32.2.1).getD (0,0,([]:List BV),false),(Ae DQ z30.2 a32.2.1).isSome)).bind fun a33 =>
((cond (a32.2.1 != 0) (
cond (!a33.2) (
some true) (
some (decide (a33.1.1<=a32.1)))) (
some false):Option Bool)).bind fun y34 =>
cond y34 (
some (Bb z30.2 a32.2.1 (a32.1,a32.2.1,a32.2.2.1,a32.2.2.2))) (
some z30.2):Option (List (Int × Ax)))).bind fun y35 =>
some (.inl ((IntKind.wrap .i64 (z30.1+1)),y35))) (
some (.inr z30.2))
noncomputable def TL (k:Nat){R:Type}(z47:(((List (Int × Ax)) × (List (Int × Ax))) × (List Ax)))(Kin:(((List (Int × Ax)) × (List (Int × Ax))) × (List Ax))->Option R)(Kout:((List (Int × Ax)) × (List Ax))->Option R):Option R :=
cond z47.1.2.isEmpty (
Kout (z47.1.1,z47.2)) (
JB z47.1.2 fun j48=>fun a49 =>
Ai (decide ((z47.2.length+[(a49.2.1,a49.2.2.1,a49.2.2.2.1,a49.2.2.2.2)].length) * 48<=140737488355328)) <|
Kin ((z47.1.1,(List.eraseIdx z47.1.2 j48)),(z47.2 ++ [(a49.2.1,a49.2.2.1,a49.2.2.2.1,a49.2.2.2.2)])))
noncomputable def VE (k:Nat)(x1:Int)(x2:Int)(x3:Int)(x4:(List Ax)):Option (Int × Int × Int × (List Ax)) :=
(AE (LD k x4) k (0,([]:List (Int × Ax)))).bind fun y36 =>
EN (TL k) k ((y36,y36),([]:List Ax)) fun y50 =>
(mD k y50.2).bind fun y52 =>
some (x1,x2,x3,y52)
def lA:AQ:=⟨[.ag [.i .i64,.i .i64,.i .i64],.sl .u 1000000],[(1000000,.ar 52 Ck)]⟩
def ew:List Ah:=[.ti,.ti,.ti,.tl Ck]
def mU:List AP:=[⟨.ag [.i .i64,.i .i64,.i .i64,.fz .u Ck],[],[.ti,.ti,.ti,.tl Ck]⟩]
def lR:An:=.sq (.nd) (.sq (.nd) (.sq (.sq (.nd) (.lp [2,4,5,14,15] [2,4] ⟨[(16,.i .i64)],[(13,.mp ⟨(.i .u32),true,Ck⟩)]⟩ [.ti,.tm ⟨(.i .u32),true,Ck⟩] [(2,⟨[],[(13,.mp ⟨(.i .u32),true,Ck⟩)]⟩)] [[.tm ⟨(.i .u32),true,Ck⟩]] (.sq (.nd) (.sq (.nd) (.jn [16] [] [(0,⟨[],[(13,.mp ⟨(.i .u32),true,Ck⟩)]⟩)] [[.tm ⟨(.i .u32),true,Ck⟩]] (.sq (.nd) (.sq (.nd) (.jn [7] [7,13] [(0,⟨[(40,.b)],[]⟩)] [[.tb]] (.nd) (.nd)))) (.nd)))))) (.sq (.nd) (.sq (.sq (.nd) (.lc [2,4,47] [2,4,47] ⟨[(10,.sl .n 301650)],[(13,.mq ⟨(.i .u32),true,Ck⟩ 47),(301650,.ar 52 Ck)]⟩ [.tq ⟨(.i .u32),true,Ck⟩,.tl Ck] [(4,⟨[(10,.sl .n 301675)],[(13,.mp ⟨(.i .u32),true,Ck⟩),(301675,.ar 52 Ck)]⟩)] [[.tm ⟨(.i .u32),true,Ck⟩,.tl Ck]] (.nd))) (.nd)))))
theorem nN (k:Nat)(y:Tup ew):EX Tryz.f28 lA ew [1000000] mU lR [tW k] k y=VE k y.1 y.2.1 y.2.2.1 y.2.2.2:=by kernel_rfl
noncomputable def kj (k:Nat):Ao Tryz.prog:=CK 28 Tryz.func28 (nN k)
noncomputable def YL (k:Nat)(y4:(List Cp))(z20:(Int × Int)):Option ((Int × Int) ⊕ Int) :=
cond (decide (z20.2 < (y4.length:Int))) (
(ix y4 z20.2).bind fun a21 =>
(y4[z20.2.toNat]?).bind fun a22 =>
some (.inl ((mx z20.1 a22.1),(IntKind.wrap .i64 (z20.2+1))))) (
some (.inr z20.1))
noncomputable def Yp (k:Nat)(x1:Int)(x2:Int)(x3:Int)(y4:(List Cp))(z46:(Int × Int × Int × Int × (List Cp) × (List (Int × Bool)))):Option ((Int × Int × Int × Int × (List Cp) × (List (Int × Bool))) ⊕ (Int × Int × Int × (List Cp) × (List (Int × Bool)))) :=
cond (decide (z46.1 < z46.2.2.2.1)) (
(lf k y4 z46.2.2.2.1 x1 x2 x3 z46.2.2.2.2.2).bind fun y47 =>
cond (!y47.2.2.2.2.2.1) (
some (.inr (z46.2.2.2.1,(mx z46.2.1 z46.2.2.2.1),z46.2.2.1,z46.2.2.2.2.1,y47.2.2.2.2.2.2))) (
Ai (decide ((z46.2.2.2.2.1.length+[(y47.1,y47.2.1,y47.2.2.1,y47.2.2.2.1,y47.2.2.2.2.1)].length) * 64<=140737488355328)) <|
(jd k y47.1 y47.2.1 y47.2.2.1 y47.2.2.2.1 y47.2.2.2.2.1 y47.2.2.2.2.2.2).bind fun y48 =>
some (.inl (z46.1,z46.2.1,z46.2.2.1,y47.2.1,(z46.2.2.2.2.1 ++ [(y47.1,y47.2.1,y47.2.2.1,y47.2.2.2.1,y47.2.2.2.2.1)]),y48.2)))) (
some (.inr (z46.1,z46.2.1,z46.2.2.1,z46.2.2.2.2.1,z46.2.2.2.2.2)))
noncomputable def aj (k:Nat){R:Type}(z64:(Int × Int × Int × ((List (Int × Bool)) × (List (Int × Bool))) × (List Int)))(Kin:(Int × Int × Int × ((List (Int × Bool)) × (List (Int × Bool))) × (List Int))->Option R)(Kout:(Int × Int × Int × (List (Int × Bool)) × (List Int))->Option R):Option R :=
cond z64.2.2.2.1.2.isEmpty (
Kout (z64.1,z64.2.1,z64.2.2.1,z64.2.2.2.1.1,z64.2.2.2.2)) (
JB z64.2.2.2.1.2 fun j65=>fun a66 =>
Ai (decide ((z64.2.2.2.2.length+[a66.1].length) * 8<=140737488355328)) <|
Kin (z64.1,z64.2.1,z64.2.2.1,(z64.2.2.2.1.1,(List.eraseIdx z64.2.2.2.1.2 j65)),(z64.2.2.2.2 ++ [a66.1])))
noncomputable def Vp (k:Nat)(x1:Int)(x2:Int)(x3:Int)(x4:(List Ax)):Option (Int × Int × Int × (List Cp) × (List Int) × Int × Int) :=
(VE k x1 x2 x3 x4).bind fun y2 =>
(jf k y2.1 y2.2.1 y2.2.2.1 y2.2.2.2).bind fun y4 =>
(jr k y2.1 y2.2.1 y2.2.2.1 y2.2.2.2).bind fun y6 =>
((cond y6.2.2.2.2 (
some (Bb ([]:List (Int × Bool)) y6.2.2.2.1 true)) (
some ([]:List (Int × Bool))):Option (List (Int × Bool)))).bind fun y7 =>
(AE (YL k y4) k (0,0)).bind fun y23 =>
(AE (Yp k x1 x2 x3 y4) k (y6.1,y6.2.2.1,y6.2.1,y23,([]:List Cp),y7)).bind fun y49 =>
(ju k y49.2.2.2.1).bind fun y51 =>
EN (aj k) k (y49.1,y49.2.1,y49.2.2.1,(y49.2.2.2.2,y49.2.2.2.2),([]:List Int)) fun y67 =>
(jq k y67.2.2.2.2).bind fun y69 =>
((cond (decide (0 < (y51.length:Int))) (
(ix y51 (IntKind.wrap .i64 ((y51.length:Int) - 1))).bind fun a72 =>
(y51[(IntKind.wrap .i64 ((y51.length:Int) - 1)).toNat]?).bind fun a73 =>
some (y67.1,y67.2.1,y67.2.2.1,(mx y67.1 a73.1))) (
some (y67.1,y67.2.1,y67.2.2.1,y67.1)):Option (Int × Int × Int × Int))).bind fun y74 =>
(ji k y2.1 y2.2.1 y2.2.2.1 y2.2.2.2 y74.2.2.2 y67.2.2.2.1).bind fun y76 =>
some (y74.1,y74.2.1,y74.2.2.1,y51,y69,y74.2.2.2,y76)
def kK:AQ:=⟨[.ag [.i .i64,.i .i64,.i .i64],.sl .u 1000000],[(1000000,.ar 52 Ck)]⟩
def eZ:List Ah:=[.ti,.ti,.ti,.tl Ck]
def nM:List AP:=[⟨.ag [.i .u32,.i .u32,.i .u32,.fz .u Cl,.fz .u Bm,.i .u32,.i .u32],[],[.ti,.ti,.ti,.tl Cl,.tl Bm,.ti,.ti]⟩]
def nU:An:=.sq (.nd) (.sq (.nd) (.sq (.nd) (.sq (.nd) (.sq (.nd) (.sq (.nd) (.jn [2,4,5,6,10,11] [2,4,5,10,11,402400] [(0,⟨[],[(38,.mp ⟨(.i .i64),false,(.bool .nil)⟩)]⟩)] [[.tm ⟨(.i .i64),false,(.bool .nil)⟩]] (.nd) (.sq (.nd) (.sq (.sq (.nd) (.lp [2,4,5,6,10,11,42,43] [2,4,5,10,11,38,402400] ⟨[(12,.i .u32),(44,.i .i64)],[]⟩ [.ti,.ti] [(2,⟨[(12,.i .u32)],[]⟩)] [[.ti]] (.nd))) (.sq (.sq (.nd) (.lp [2,4,5,6,10,11] [2,4,5,402400] ⟨[(15,.pt 302050 0)],[(10,.bx 35 [.i .u32,.i .u32,.i .u32,.sl .n 302051,.c (.slice none 0 0),.li .u32 0,.li .u32 0]),(11,.bx 81 [.mp 302052]),(302050,.bx 31 [.i .u32]),(302051,.ar 47 Cl),(302052,.mp ⟨(.i .i64),false,(.bool .nil)⟩)]⟩ [.ti,.ti,.ti,.ti,.tl Cl,.tm ⟨(.i .i64),false,(.bool .nil)⟩] [(4,⟨[],[(10,.bx 35 [.i .u32,.i .u32,.i .u32,.sl .n 302075,.c (.slice none 0 0),.li .u32 0,.li .u32 0]),(11,.bx 81 [.mp 302076]),(302075,.ar 47 Cl),(302076,.mp ⟨(.i .i64),false,(.bool .nil)⟩)]⟩)] [[.ti,.ti,.ti,.tl Cl,.tm ⟨(.i .i64),false,(.bool .nil)⟩]] (.sq (.nd) (.sq (.sq (.nd) (.sq (.sq (.nd) (.sq (.sq (.mk [] [0,0,2,0,14,7,39,127,255]) (.nd)) (.nd))) (.nd))) (.nd))))) (.sq (.nd) (.sq (.sq (.nd) (.lc [4,5,10,11,91] [4,5,11,91,302075] ⟨[],[(10,.bx 35 [.i .u32,.i .u32,.i .u32,.sl .n 302075,.sl .n 303700,.li .u32 0,.li .u32 0]),(302076,.mq ⟨(.i .i64),false,(.bool .nil)⟩ 91),(303700,.ar 3 Bm)]⟩ [.ti,.ti,.ti,.tq ⟨(.i .i64),false,(.bool .nil)⟩,.tl Bm] [(6,⟨[],[(10,.bx 35 [.i .u32,.i .u32,.i .u32,.sl .n 302075,.sl .n 303725,.li .u32 0,.li .u32 0]),(302076,.mp ⟨(.i .i64),false,(.bool .nil)⟩),(303725,.ar 3 Bm)]⟩)] [[.ti,.ti,.ti,.tm ⟨(.i .i64),false,(.bool .nil)⟩,.tl Bm]] (.nd))) (.sq (.nd) (.sq (.nd) (.jn [4,5,10,11] [4,5,11,302075,302076,303725] [(0,⟨[],[(10,.bx 35 [.i .u32,.i .u32,.i .u32,.sl .n 302075,.sl .n 303725,.i .u32,.li .u32 0])]⟩)] [[.ti,.ti,.ti,.ti]] (.sq (.nd) (.sq (.nd) (.sq (.mk [] [0,1,0,4,0,16,60,124,252,508,1023,2047,4095]) (.nd)))) (.nd)))))))))))))))
theorem ke (k:Nat)(hm:Mo.m=false)(y:Tup eZ):EX Tryz.f13 kK eZ [1000000] nM nU [kj k,uG k hm,uY k,uX k,pa k,tU k,tj k,tF k] k y=Vp k y.1 y.2.1 y.2.2.1 y.2.2.2:=by kernel_rfl
noncomputable def lj (k:Nat)(hm:Mo.m=false):Ao Tryz.prog:=CK 13 Tryz.func13 (ke k hm)
noncomputable def jC (k:Nat)(x1:(List Ax))(z284:(Int × JP))(z285:(Int × Int)):Option ((Int × Int) ⊕ Int) :=
cond (decide (z285.2 < (x1.length:Int))) (
(((((ix x1 z285.2).bind fun a286 =>
(x1[z285.2.toNat]?).bind fun a287 =>
cond (decide (z284.1 < a287.2.1)) (
cond (decide (z285.1 < 0)) (
some true) (
(ix x1 z285.2).bind fun a288 =>
(x1[z285.2.toNat]?).bind fun a289 =>
(ix x1 z285.1).bind fun a290 =>
(x1[z285.1.toNat]?).bind fun a291 =>
cond (decide (a289.2.1 < a291.2.1)) (
some true) (
(ix x1 z285.2).bind fun a292 =>
(x1[z285.2.toNat]?).bind fun a293 =>
(ix x1 z285.1).bind fun a294 =>
(x1[z285.1.toNat]?).bind fun a295 =>
cond (a293.2.1 == a295.2.1) (
(ix x1 z285.2).bind fun a296 =>
(x1[z285.2.toNat]?).bind fun a297 =>
(ix x1 z285.1).bind fun a298 =>
(x1[z285.1.toNat]?).bind fun a299 =>
some (decide (a299.1 < a297.1))) (
some false)))) (
some false):Option Bool)).bind fun y300 =>
cond y300 (
some z285.2) (
some z285.1):Option Int)).bind fun y301 =>
some (.inl (y301,(IntKind.wrap .i64 (z285.2+1))))) (
some (.inr z285.1))
noncomputable def PV (k:Nat)(a304:Ax)(x1:(List Ax))(y302:Int)(z305:(Int × JP)):Option ((Int × JP) ⊕ JP) :=
(ix x1 y302).bind fun a306 =>
(x1[y302.toNat]?).bind fun a307 =>
cond (decide (z305.1 < (a307.2.2.1.length:Int))) (
(ix x1 y302).bind fun a308 =>
(x1[y302.toNat]?).bind fun a309 =>
(ix a309.2.2.1 z305.1).bind fun a310 =>
(ix x1 y302).bind fun a311 =>
(x1[y302.toNat]?).bind fun a312 =>
Ai (decide ((z305.2.length+[(a310.1,a310.2.1,a310.2.2.1,a310.2.2.2,a304.2.1,a312.1,(IntKind.wrap .i64 (z305.1+1)))].length) * 56<=140737488355328)) <|
some (.inl ((IntKind.wrap .i64 (z305.1+1)),(z305.2 ++ [(a310.1,a310.2.1,a310.2.2.1,a310.2.2.2,a304.2.1,a312.1,(IntKind.wrap .i64 (z305.1+1)))])))) (
some (.inr z305.2))
noncomputable def mv (k:Nat)(x1:(List Ax))(z284:(Int × JP)):Option ((Int × JP) ⊕ JP) :=
(AE (jC k x1 z284) k ((-1),0)).bind fun y302 =>
cond (decide (y302 < 0)) (
some (.inr z284.2)) (
(ix x1 y302).bind fun a303 =>
(x1[y302.toNat]?).bind fun a304 =>
(AE (PV k a304 x1 y302) k (0,z284.2)).bind fun y313 =>
some (.inl (a304.2.1,y313)))
noncomputable def uk (k:Nat)(x1:(List Ax)):Option JP :=
(AE (mv k x1) k (0,([]:List (Int × Int × Int × ByteArray × Int × Int × Int)))).bind fun y314 =>
some y314
def A37:AQ:=⟨[.sl .u 1000000],[(1000000,.ar 52 Ck)]⟩
def uw:List Ah:=[.tl Ck]
def R37:List AP:=[⟨.sl .u 500000,[(500000,.ar 92 Xm)],[.tl Xm]⟩]
def n37:An:=.sq (.nd) (.sq (.nd) (.sq (.nd) (.lp [0] [] ⟨[(3,.sl .n 300350),(4,.i .u32)],[(300350,.ar 92 Xm)]⟩ [.ti,.tl Xm] [(1,⟨[(2,.sl .n 300375)],[(300375,.ar 92 Xm)]⟩)] [[.tl Xm]] (.sq (.nd) (.sq (.sq (.nd) (.lp [3,4] [300350] ⟨[(5,.i .i64),(6,.i .i64)],[]⟩ [.ti,.ti] [(4,⟨[(5,.i .i64)],[]⟩)] [[.ti]] (.sq (.nd) (.jn [6] [] [(0,⟨[(5,.i .i64)],[]⟩)] [[.ti]] (.jn [5] [] [(0,⟨[(63,.b)],[]⟩)] [[.tb]] (.mk [] [0,0,3,7,15,0,63,127,255,511,1023,2047,2047,8191,16383,32767,2047,2047,198655,460799,985087,2097151,4194303,8388607,16777215,16777215,67108863,134217727,268435455,16777215,16777215,1627389951,3774873599,8069840895,17179869183,34359738367,68719476735,68719476735,274877906943,549755813887,1099511627775,68719476735,68719476735,6665789243391,15461882265599,33054068310015,70368744177663,140737488355327,281474976710655,562949953421311]) (.nd)) (.nd))))) (.sq (.nd) (.sq (.nd) (.sq (.nd) (.lp [4,5] [] ⟨[(3,.sl .n 302150),(7,.i .i64)],[(302150,.ar 92 Xm)]⟩ [.ti,.tl Xm] [(6,⟨[(3,.sl .n 302175)],[(302175,.ar 92 Xm)]⟩)] [[.tl Xm]] (.sq (.nd) (.sq (.mk [] [0,0,0,6,14,30,0,126,254,0,0,0,3072,7168,15360,0,32768,130048,262142,524286,1048575,2097151]) (.nd))))))))))))
theorem e37 (k:Nat)(y:Tup uw):EX Tryz.f37 A37 uw [1000000] R37 n37 [] k y=uk k y:=by kernel_rfl
noncomputable def C37 (k:Nat):Ao Tryz.prog:=CK 37 Tryz.func37 (e37 k)
noncomputable def aq (k:Nat)(x1:ByteArray)(x2:Int):Option Int :=
Ai (decide (0<=x2/\x2 < (x1.size:Int))) <|
Ai (decide (0<=(IntKind.wrap .i64 (x2+1))/\(IntKind.wrap .i64 (x2+1)) < (x1.size:Int))) <|
Ai (decide (0<=(IntKind.wrap .i64 (x2+2))/\(IntKind.wrap .i64 (x2+2)) < (x1.size:Int))) <|
Ai (decide (0<=(IntKind.wrap .i64 (x2+3))/\(IntKind.wrap .i64 (x2+3)) < (x1.size:Int))) <|
some (bits .or .u32 (bits .or .u32 (bits .or .u32 (IntKind.wrap .u32 (bt x1 x2)) (IntKind.wrap .u32 ((IntKind.wrap .u32 (bt x1 (IntKind.wrap .i64 (x2+1)))) * 2 ^ 8))) (IntKind.wrap .u32 ((IntKind.wrap .u32 (bt x1 (IntKind.wrap .i64 (x2+2)))) * 2 ^ 16))) (IntKind.wrap .u32 ((IntKind.wrap .u32 (bt x1 (IntKind.wrap .i64 (x2+3)))) * 2 ^ 24)))
def A38:AQ:=⟨[.s,.i .i64],[]⟩
def th:List Ah:=[.ts,.ti]
def R38:List AP:=[⟨.i .u32,[],[.ti]⟩]
def n38:An:=.sq (.nd) (.sq (.mk [] [0,0,3,7,0,0,32,112,240,496,1023,0,0,4096,14336,30720,63488,131071,0,0,524288,1835008,3932160,8126464,16777215,33554431]) (.nd))
theorem e38 (k:Nat)(y:Tup th):EX Tryz.f38 A38 th [] R38 n38 [] k y=aq k y.1 y.2:=by kernel_rfl
noncomputable def qT (k:Nat):Ao Tryz.prog:=CK 38 Tryz.func38 (e38 k)
noncomputable def uB (k:Nat)(x1:Int)(x2:Int)(x3:Int)(x4:Int)(x5:Int)(x6:Int)(x7:ByteArray)(x8:Int)(x9:Int)(x10:Int)(x11:Int)(x12:Int)(x13:Int)(x14:ByteArray)(x15:Int)(x16:Int)(x17:Int):Option Bool :=
cond (x8 == x15) (
some (x17 == (IntKind.wrap .i64 (x10+1)))) (
(ed k x1 x2 x3).bind fun y1 =>
cond (x10 == y1) (
cond (x17 == 1) (
some (x15 == (IntKind.wrap .u32 (x8+1)))) (
some false)) (
some false))
def A62:AQ:=⟨[.ag [.i .i64,.i .i64,.i .i64],.ag [.i .i64,.i .u32,.i .u32,.s,.i .u32,.i .i64,.i .i64],.ag [.i .i64,.i .u32,.i .u32,.s,.i .u32,.i .i64,.i .i64]],[]⟩
def ug:List Ah:=[.ti,.ti,.ti,.ti,.ti,.ti,.ts,.ti,.ti,.ti,.ti,.ti,.ti,.ts,.ti,.ti,.ti]
def R62:List AP:=[⟨.b,[],[.tb]⟩]
def n62:An:=.sq (.nd) (.sq (.nd) (.sq (.mk [] [0,1,3,0,8,31,63,127,255,511,1023,2047,4095,8191,16383,8191,40959,106495,262143,524287,1048575]) (.nd)))
theorem e62 (k:Nat)(y:Tup ug):EX Tryz.f62 A62 ug [] R62 n62 [ni k] k y=uB k y.1 y.2.1 y.2.2.1 y.2.2.2.1 y.2.2.2.2.1 y.2.2.2.2.2.1 y.2.2.2.2.2.2.1 y.2.2.2.2.2.2.2.1 y.2.2.2.2.2.2.2.2.1 y.2.2.2.2.2.2.2.2.2.1 y.2.2.2.2.2.2.2.2.2.2.1 y.2.2.2.2.2.2.2.2.2.2.2.1 y.2.2.2.2.2.2.2.2.2.2.2.2.1 y.2.2.2.2.2.2.2.2.2.2.2.2.2.1 y.2.2.2.2.2.2.2.2.2.2.2.2.2.2.1 y.2.2.2.2.2.2.2.2.2.2.2.2.2.2.2.1 y.2.2.2.2.2.2.2.2.2.2.2.2.2.2.2.2:=by kernel_rfl
noncomputable def C62 (k:Nat):Ao Tryz.prog:=CK 62 Tryz.func62 (e62 k)
noncomputable def uM (k:Nat)(x1:Int)(x2:Int)(x3:Int)(x4:ByteArray):Option Bool :=
((cond (decide (x2 < 1)) (
some true) (
some (decide (2147483647 < x2))):Option Bool)).bind fun y2 =>
cond y2 (
some false) (
cond (x1 == 1) (
some (x4.toList == (⟨#[]⟩:ByteArray).toList)) (
cond (x1 == 2) (
some (!(x4.toList == (⟨#[]⟩:ByteArray).toList))) (
cond (x1 == 3) (
cond (x3 != 0) (
cond ((x4.size:Int) == 16) (
(aq k x4 0).bind fun y8 =>
cond (decide (y8 < x2)) (
(aq k x4 4).bind fun y9 =>
cond (decide (1<=y9)) (
(aq k x4 4).bind fun y10 =>
cond (decide (y10<=x2)) (
(aq k x4 12).bind fun y11 =>
some (y11 != 0)) (
some false)) (
some false)) (
some false)) (
some false)) (
some false)) (
cond (x1 == 4) (
cond ((x4.size:Int) == 4) (
(aq k x4 0).bind fun y12 =>
some (decide (y12<=x2))) (
some false)) (
some false)))))
def A46:AQ:=⟨[.ag [.i .i64,.i .u32,.i .u32,.s]],[]⟩
def tO:List Ah:=[.ti,.ti,.ti,.ts]
def R46:List AP:=[⟨.b,[],[.tb]⟩]
def n46:An:=.sq (.nd) (.sq (.jn [1] [1] [(0,⟨[(10,.b)],[]⟩)] [[.tb]] (.nd) (.nd)) (.sq (.sq (.nd) (.sq (.nd) (.sq (.nd) (.sq (.nd) (.sq (.nd) (.sq (.nd) (.sq (.sq (.mk [] [0,1,3,7,15,31,63,127,255,511,1023,2047,4095,1023,9215,32767,65535,131071,262143,524287,1048575,2097151,4194303,8388607,16777215,33554431,67108863,16777215,150994943,536870911,1073741823,2147483647,4294967295,8589934591,17179869183,34359738367,68719476735,137438953471]) (.nd)) (.sq (.nd) (.sq (.sq (.mk [] [0,1,3,7,15,31,63,127,31,287,1023,2047,4095]) (.nd)) (.nd)))))))))) (.nd)))
theorem e46 (k:Nat)(y:Tup tO):EX Tryz.f46 A46 tO [] R46 n46 [qT k] k y=uM k y.1 y.2.1 y.2.2.1 y.2.2.2:=by kernel_rfl
noncomputable def C46 (k:Nat):Ao Tryz.prog:=CK 46 Tryz.func46 (e46 k)
noncomputable def iE (k:Nat)(x1:ByteArray)(z14:(Int × Int × Int)):Option ((Int × Int × Int) ⊕ (Int ⊕ (Int × Int))) :=
cond (decide (z14.2.2 < 5)) (
cond (decide ((x1.size:Int)<=z14.1)) (
some (.inr (.inl 3))) (
Ai (decide (0<=z14.1/\z14.1 < (x1.size:Int))) <|
((cond (z14.2.2 == 4) (
cond (decide (15 < (bt x1 z14.1))) (
some true) (
cond ((bt x1 z14.1) == 0) (
some (decide (0 < z14.2.2))) (
some false))) (
cond ((bt x1 z14.1) == 0) (
some (decide (0 < z14.2.2))) (
some false)):Option Bool)).bind fun y15 =>
cond y15 (
some (.inr (.inl 2))) (
Ai (decide (0<=(IntKind.wrap .u64 (IntKind.wrap .i64 (7 * z14.2.2))))) <|
cond (decide ((bt x1 z14.1) < 128)) (
some (.inr (.inr ((IntKind.wrap .i64 (z14.1+1)),(bits .or .u32 z14.2.1 (IntKind.wrap .u32 ((IntKind.wrap .u32 ((bt x1 z14.1).tmod 128)) * 2 ^ (min (IntKind.wrap .u64 (IntKind.wrap .i64 (7 * z14.2.2))).toNat 32)))))))) (
some (.inl ((IntKind.wrap .i64 (z14.1+1)),(bits .or .u32 z14.2.1 (IntKind.wrap .u32 ((IntKind.wrap .u32 ((bt x1 z14.1).tmod 128)) * 2 ^ (min (IntKind.wrap .u64 (IntKind.wrap .i64 (7 * z14.2.2))).toNat 32)))),(IntKind.wrap .i64 (z14.2.2+1)))))))) (
some (.inr (.inr (z14.1,z14.2.1))))
noncomputable def sP (k:Nat)(x1:ByteArray)(x2:Int):Option (Int × Int × Int) :=
((cond (decide (x2 < 0)) (
some true) (
some (decide ((x1.size:Int) < x2))):Option Bool)).bind fun y2 =>
cond y2 (
some (0,0,1)) (
(AE (iE k x1) k (x2,0,0)).bind fun y16 =>
BN (fun y17 =>
some (0,0,y17)) (fun y18 =>
some (y18.2,y18.1,0)) y16)
def A72:AQ:=⟨[.s,.i .i64],[]⟩
def tE:List Ah:=[.ts,.ti]
def R72:List AP:=[⟨.tp [.i .u32,.i .i64,.i .i64],[],[.ti,.ti,.ti]⟩]
def n72:An:=.sq (.nd) (.sq (.jn [0,1] [] [(0,⟨[(17,.b)],[]⟩)] [[.tb]] (.nd) (.nd)) (.sq (.nd) (.sq (.sq (.nd) (.lp [0] [] ⟨[(1,.i .i64),(7,.i .u32),(8,.i .i64)],[]⟩ [.ti,.ti,.ti] [(1,⟨[(4,.li .u32 0),(5,.li .i64 0),(6,.i .i64)],[]⟩),(2,⟨[(1,.i .i64),(7,.i .u32)],[]⟩)] [[.ti],[.ti,.ti]] (.sq (.nd) (.sq (.sq (.nd) (.sq (.nd) (.sq (.nd) (.sq (.jn [1,7,8,9] [] [(0,⟨[(44,.b)],[]⟩)] [[.tb]] (.nd) (.nd)) (.nd))))) (.nd))))) (.nd))))
theorem e72 (k:Nat)(y:Tup tE):EX Tryz.f72 A72 tE [] R72 n72 [] k y=sP k y.1 y.2:=by kernel_rfl
noncomputable def tT (k:Nat):Ao Tryz.prog:=CK 72 Tryz.func72 (e72 k)
noncomputable def pT (k:Nat)(x1:ByteArray)(x2:Int)(x3:Int):Option (ByteArray × Int × Int) :=
(sP k x1 x2).bind fun y2 =>
cond (y2.2.2 != 0) (
some ((⟨#[]⟩:ByteArray),0,y2.2.2)) (
cond (decide ((mx x3 0) < (IntKind.wrap .i64 y2.1))) (
some ((⟨#[]⟩:ByteArray),0,4)) (
cond (decide ((IntKind.wrap .i64 ((x1.size:Int) - y2.2.1)) < (IntKind.wrap .i64 y2.1))) (
some ((⟨#[]⟩:ByteArray),0,3)) (
Ai (Be (x1.size:Int) y2.2.1 (IntKind.wrap .i64 (y2.2.1+(IntKind.wrap .i64 y2.1)))) <|
some ((x1.extract y2.2.1.toNat ((IntKind.wrap .i64 (y2.2.1+(IntKind.wrap .i64 y2.1))).toNat)),(IntKind.wrap .i64 (y2.2.1+(IntKind.wrap .i64 y2.1))),0))))
def A73:AQ:=⟨[.s,.i .i64,.i .i64],[]⟩
def uL:List Ah:=[.ts,.ti,.ti]
def R73:List AP:=[⟨.tp [.s,.i .i64,.i .i64],[],[.ts,.ti,.ti]⟩]
def n73:An:=.nd
theorem e73 (k:Nat)(y:Tup uL):EX Tryz.f73 A73 uL [] R73 n73 [tT k] k y=pT k y.1 y.2.1 y.2.2:=by kernel_rfl
noncomputable def C73 (k:Nat):Ao Tryz.prog:=CK 73 Tryz.func73 (e73 k)
noncomputable def ZY (k:Nat)(x1:(List AY))(z75:Int):Option (Int ⊕ (Int ⊕ Unit)) :=
cond (decide (z75 < (x1.length:Int))) (
(ix x1 z75).bind fun a76 =>
(Wq k a76.1).bind fun y77 =>
cond (!y77) (
some (.inr (.inl 10))) (
(ix x1 z75).bind fun a78 =>
cond (decide (48 < (a78.2.2.size:Int))) (
some (.inr (.inl 11))) (
(((ix x1 z75).bind fun a79 =>
cond a79.2.1 (
(ix x1 z75).bind fun a80 =>
cond (!(a80.2.2.toList == (⟨#[]⟩:ByteArray).toList)) (
some true) (
cond (decide (0 < z75)) (
(ix x1 (IntKind.wrap .i64 (z75 - 1))).bind fun a81 =>
(ix x1 z75).bind fun a82 =>
(Rq k a81.1 a82.1).bind fun y83 =>
some (!y83)) (
some false))) (
cond (decide (0 < z75)) (
(ix x1 (IntKind.wrap .i64 (z75 - 1))).bind fun a84 =>
(ix x1 z75).bind fun a85 =>
(Rq k a84.1 a85.1).bind fun y86 =>
some (!y86)) (
some false)):Option Bool)).bind fun y87 =>
cond y87 (
some (.inr (.inl 2))) (
some (.inl (IntKind.wrap .i64 (z75+1))))))) (
some (.inr (.inr ())))
noncomputable def eQ (k:Nat)(x1:(List AY)):Option Int :=
((cond (decide ((x1.length:Int) < 1)) (
some true) (
some (decide (8 < (x1.length:Int)))):Option Bool)).bind fun y2 =>
cond y2 (
some 12) (
(AE (ZY k x1) k 0).bind fun y88 =>
BN (fun y89 =>
some y89) (fun y90 =>
some 0) y88)
def lB:AQ:=⟨[.fz .u CF],[]⟩
def ec:List Ah:=[.tl CF]
def lz:List AP:=[⟨.i .i64,[],[.ti]⟩]
def nB:An:=.sq (.nd) (.sq (.jn [0] [] [(0,⟨[(11,.b)],[]⟩)] [[.tb]] (.nd) (.nd)) (.sq (.sq (.nd) (.lp [0] [] ⟨[(3,.i .i64)],[]⟩ [.ti] [(1,⟨[(2,.i .i64)],[]⟩),(2,⟨[],[]⟩)] [[.ti],[]] (.sq (.nd) (.sq (.sq (.nd) (.sq (.nd) (.jn [3] [] [(0,⟨[(63,.b)],[]⟩)] [[.tb]] (.mk [] [0,0,3,7,15,31,63,63,255,511,1023,2047,4095,8191,16383,32767,65535,131071,131071,393215,1048575,2097151,4194303,131071,131071,25296895,58851327,125960191,268435455,536870911,1073741823,2147483647]) (.nd)))) (.nd))))) (.nd)))
theorem lM (k:Nat)(y:Tup ec):EX Tryz.f74 lB ec [] lz nB [lG k,jV k] k y=eQ k y:=by kernel_rfl
noncomputable def kH (k:Nat):Ao Tryz.prog:=CK 74 Tryz.func74 (lM k)
noncomputable def iK (k:Nat)(x1:ByteArray)(y2:(Int × Int × Int))(z35:(Int × Int × (List AY))):Option ((Int × Int × (List AY)) ⊕ (Int ⊕ (Int × (List AY)))) :=
cond (decide (z35.2.1 < (IntKind.wrap .i64 y2.1))) (
cond (decide ((x1.size:Int)<=z35.1)) (
some (.inr (.inl 3))) (
Ai (decide (0<=z35.1/\z35.1 < (x1.size:Int))) <|
cond (decide (1 < (bt x1 z35.1))) (
some (.inr (.inl 2))) (
Ai (decide (0<=z35.1/\z35.1 < (x1.size:Int))) <|
(pT k x1 (IntKind.wrap .i64 (z35.1+1)) 48).bind fun y36 =>
((((cond (y36.2.2 == 0) (
some (!((bt x1 z35.1) == 1))) (
some false):Option Bool)).bind fun y37 =>
cond y37 (
(pT k x1 y36.2.1 48).bind fun y38 =>
some (y38.2.1,y38.2.2,y36.1,((bt x1 z35.1) == 1),y38.1)) (
some (y36.2.1,y36.2.2,y36.1,((bt x1 z35.1) == 1),ByteArray.empty)):Option (Int × Int × ByteArray × Bool × ByteArray))).bind fun y39 =>
cond (y39.2.1 != 0) (
some (.inr (.inl y39.2.1))) (
Ai (decide ((z35.2.2.length+[(y39.2.2.1,y39.2.2.2.1,y39.2.2.2.2)].length) * 40<=140737488355328)) <|
some (.inl (y39.1,(IntKind.wrap .i64 (z35.2.1+1)),(z35.2.2 ++ [(y39.2.2.1,y39.2.2.2.1,y39.2.2.2.2)]))))))) (
some (.inr (.inr (z35.1,z35.2.2))))
noncomputable def uK (k:Nat)(x1:ByteArray):Option ((List AY) × Int) :=
(sP k x1 0).bind fun y2 =>
cond (y2.2.2 != 0) (
some (([]:List AY),y2.2.2)) (
((cond (decide (y2.1 < 1)) (
some true) (
some (decide (8 < y2.1))):Option Bool)).bind fun y4 =>
cond y4 (
some (([]:List AY),12)) (
(AE (iK k x1 y2) k (y2.2.1,0,([]:List AY))).bind fun y40 =>
BN (fun y41 =>
some (([]:List AY),y41)) (fun y42 =>
cond (y42.1 != (x1.size:Int)) (
some (([]:List AY),2)) (
(eQ k y42.2).bind fun y45 =>
cond (y45 != 0) (
some (([]:List AY),y45)) (
some (y42.2,0)))) y40))
def A48:AQ:=⟨[.s],[]⟩
def oC:List Ah:=[.ts]
def R48:List AP:=[⟨.tp [.fz .u CF,.i .i64],[],[.tl CF,.ti]⟩]
def n48:An:=.sq (.nd) (.sq (.nd) (.sq (.nd) (.sq (.jn [0,4,5] [] [(0,⟨[(25,.b)],[]⟩)] [[.tb]] (.nd) (.nd)) (.sq (.nd) (.sq (.sq (.nd) (.lp [0,4] [] ⟨[(5,.i .i64),(7,.sl .n 301300),(8,.i .i64)],[(301300,.ar 148 CF)]⟩ [.ti,.ti,.tl CF] [(1,⟨[(2,.c (.slice none 0 0)),(3,.i .i64)],[]⟩),(2,⟨[(5,.i .i64),(7,.sl .n 301335)],[(301335,.ar 148 CF)]⟩)] [[.ti],[.ti,.tl CF]] (.sq (.nd) (.sq (.sq (.nd) (.sq (.nd) (.sq (.nd) (.sq (.nd) (.jn [7,8,9] [301300] [(0,⟨[(5,.i .i64),(6,.i .i64)],[(9,.bx 148 [.s,.b,.s])]⟩)] [[.ti,.ti,.ts,.tb,.ts]] (.jn [5,6] [9] [(0,⟨[(60,.b)],[]⟩)] [[.tb]] (.nd) (.nd)) (.nd)))))) (.nd))))) (.sq (.nd) (.sq (.sq (.fr [(1,301335)]) (.nd)) (.nd))))))))
theorem e48 (k:Nat)(y:Tup oC):EX Tryz.f48 A48 oC [] R48 n48 [tT k,C73 k,kH k] k y=uK k y:=by kernel_rfl
noncomputable def C48 (k:Nat):Ao Tryz.prog:=CK 48 Tryz.func48 (e48 k)
end Go.Proofs.YthoimblkpcikdaaGreatDoor.N

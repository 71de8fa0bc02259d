/- What the functions compute, natively, and that they do. Printed by a program (wip/xg). -/
import Derived.Test.YthoimblkpcikdaaGreatDoorX1
namespace Go.Proofs.YthoimblkpcikdaaGreatDoor.N
open Go Go.RowKit Go.Proofs.YthoimblkpcikdaaGreatDoor.Mc Go.Proofs
set_option maxRecDepth 100000
set_option maxHeartbeats 0
set_option linter.unusedVariables false
variable [Mo]
noncomputable def iM (k:Nat)(x1:(List BV))(z23:Int):Option (Int ⊕ (Unit ⊕ Unit)) :=
cond (decide (z23 < (x1.length:Int))) (
(ix x1 z23).bind fun a24 =>
(uM k a24.1 a24.2.1 a24.2.2.1 a24.2.2.2).bind fun y25 =>
cond (!y25) (
some (.inr (.inl ()))) (
some (.inl (IntKind.wrap .i64 (z23+1))))) (
some (.inr (.inr ())))
noncomputable def gJ (k:Nat)(a29:BV)(x1:(List BV))(z82:(ByteArray × Int)):Option ((ByteArray × Int) ⊕ (Unit ⊕ ByteArray)) :=
cond (decide (z82.2 < (IntKind.wrap .i64 ((x1.length:Int) - 1)))) (
(((ix x1 z82.2).bind fun a83 =>
cond (a83.1 != 2) (
some true) (
(ix x1 z82.2).bind fun a84 =>
cond (a84.2.1 != a29.2.1) (
some true) (
(ix x1 z82.2).bind fun a85 =>
some (a85.2.2.1 != (IntKind.wrap .u32 z82.2)))):Option Bool)).bind fun y86 =>
cond y86 (
some (.inr (.inl ()))) (
(ix x1 z82.2).bind fun a87 =>
Ai (decide (z82.1.size+a87.2.2.2.size<=9223372036854775807)) <|
some (.inl ((z82.1 ++ a87.2.2.2),(IntKind.wrap .i64 (z82.2+1)))))) (
some (.inr (.inr z82.1)))
noncomputable def pW (k:Nat)(x1:(List BV)):Option (Int × Int × Int × (List AY) × Int) :=
cond (decide ((x1.length:Int) < 2)) (
some (0,0,0,([]:List AY),3)) (
(AE (iM k x1) k 0).bind fun y26 =>
BN (fun y27 =>
some (0,0,0,([]:List AY),2)) (fun y28 =>
(ix x1 (IntKind.wrap .i64 ((x1.length:Int) - 1))).bind fun a29 =>
((cond (a29.1 != 3) (
some true) (
some (a29.2.2.1 != (IntKind.wrap .u32 (IntKind.wrap .i64 ((x1.length:Int) - 1))))):Option Bool)).bind fun y31 =>
cond y31 (
some (0,0,0,([]:List AY),2)) (
(AE (gJ k a29 x1) k ((⟨#[]⟩:ByteArray),0)).bind fun y88 =>
BN (fun y89 =>
some (0,0,0,([]:List AY),2)) (fun y90 =>
(((aq k a29.2.2.2 12).bind fun y98 =>
cond (y98 != (IntKind.wrap .u32 (y90.size:Int))) (
some true) (
(aq k a29.2.2.2 8).bind fun y99 =>
(me k y90).bind fun y100 =>
some (y99 != y100)):Option Bool)).bind fun y101 =>
cond y101 (
some (0,0,0,([]:List AY),5)) (
(uK k y90).bind fun y103 =>
cond (y103.2 != 0) (
some (0,0,0,([]:List AY),y103.2)) (
(aq k a29.2.2.2 0).bind fun y104 =>
(aq k a29.2.2.2 4).bind fun y105 =>
some (a29.2.1,y104,y105,y103.1,0)))) y88)) y26)
def A16:AQ:=⟨[.fz .u DF],[]⟩
def tk:List Ah:=[.tl DF]
def R16:List AP:=[⟨.tp [.ag [.i .u32,.i .u32,.i .u32,.fz .u CF],.i .i64],[],[.ti,.ti,.ti,.tl CF,.ti]⟩]
def n16:An:=.sq (.nd) (.sq (.nd) (.sq (.sq (.nd) (.lp [0,2] [] ⟨[(4,.i .i64)],[(2,.bx 44 [.li .u32 0,.li .u32 0,.li .u32 0,.c (.slice none 0 0)])]⟩ [.ti] [(1,⟨[(3,.li .i64 2)],[(2,.bx 44 [.li .u32 0,.li .u32 0,.li .u32 0,.c (.slice none 0 0)])]⟩),(2,⟨[],[(2,.bx 44 [.li .u32 0,.li .u32 0,.li .u32 0,.c (.slice none 0 0)])]⟩)] [[],[]] (.nd))) (.sq (.nd) (.sq (.nd) (.sq (.jn [0,2,5,6] [2,6] [(0,⟨[(44,.b)],[]⟩)] [[.tb]] (.nd) (.nd)) (.sq (.nd) (.sq (.sq (.nd) (.lp [0,2,5,6] [6] ⟨[(7,.s),(8,.i .i64)],[(2,.bx 44 [.li .u32 0,.li .u32 0,.li .u32 0,.c (.slice none 0 0)])]⟩ [.ts,.ti] [(1,⟨[(3,.li .i64 2)],[(2,.bx 44 [.li .u32 0,.li .u32 0,.li .u32 0,.c (.slice none 0 0)])]⟩),(4,⟨[(7,.s)],[(2,.bx 44 [.li .u32 0,.li .u32 0,.li .u32 0,.c (.slice none 0 0)])]⟩)] [[],[.ts]] (.sq (.nd) (.sq (.sq (.jn [7,8] [2] [(0,⟨[(76,.b)],[]⟩)] [[.tb]] (.mk [] [0,0,3,7,15,31,63,127,127,511,1023,2047,127,4223,16383,32767,65535,131071,131071,524287,1048575,2097151,131071,4325375,16777215,33554431]) (.nd)) (.nd)) (.nd))))) (.sq (.jn [2,6,7] [2,6] [(0,⟨[(99,.b)],[]⟩)] [[.tb]] (.nd) (.nd)) (.sq (.nd) (.sq (.nd) (.sq (.mk [] [0,1,0,4,12,0,32,124,0,511,1023,2047]) (.nd))))))))))))
theorem mf (k:Nat)(y:Tup tk):EX Tryz.f16 A16 tk [] R16 n16 [C46 k,qT k,tA k,C48 k] k y=pW k y:=by kernel_rfl
noncomputable def tD (k:Nat):Ao Tryz.prog:=CK 16 Tryz.func16 (mf k)
noncomputable def lI (k:Nat)(x1:(List Int))(x2:Int)(z10:Int):Option (Int ⊕ (Unit ⊕ Unit)) :=
cond (decide (z10 < (x1.length:Int))) (
(ix x1 z10).bind fun a11 =>
cond (a11 == x2) (
some (.inr (.inl ()))) (
some (.inl (IntKind.wrap .i64 (z10+1))))) (
some (.inr (.inr ())))
noncomputable def ry (k:Nat)(x1:(List Int))(x2:Int):Option Bool :=
(AE (lI k x1 x2) k 0).bind fun y12 =>
BN (fun y13 =>
some true) (fun y14 =>
some false) y12
def A43:AQ:=⟨[.fz .u Bm,.i .i64],[]⟩
def tQ:List Ah:=[.tl Bm,.ti]
def R43:List AP:=[⟨.b,[],[.tb]⟩]
def n43:An:=.sq (.nd) (.sq (.sq (.nd) (.lp [0,1] [] ⟨[(5,.i .i64)],[]⟩ [.ti] [(1,⟨[(4,.lb true)],[]⟩),(2,⟨[],[]⟩)] [[],[]] (.nd))) (.nd))
theorem e43 (k:Nat)(y:Tup tQ):EX Tryz.f43 A43 tQ [] R43 n43 [] k y=ry k y.1 y.2:=by kernel_rfl
noncomputable def C43 (k:Nat):Ao Tryz.prog:=CK 43 Tryz.func43 (e43 k)
noncomputable def cx (k:Nat)(x1:Int)(x2:(List Int))(z15:Int):Option (Int ⊕ (Unit ⊕ Unit)) :=
cond (decide (z15 < (x2.length:Int))) (
(ix x2 z15).bind fun a16 =>
(x2[z15.toNat]?).bind fun a17 =>
cond (a17 == x1) (
some (.inr (.inl ()))) (
some (.inl (IntKind.wrap .i64 (z15+1))))) (
some (.inr (.inr ())))
noncomputable def Yr (k:Nat)(x1:Int)(x2:(List Int)):Option Bool :=
(AE (cx k x1 x2) k 0).bind fun y18 =>
BN (fun y19 =>
some true) (fun y20 =>
some false) y18
def kL:AQ:=⟨[.sl .u 1000000,.i .i64],[(1000000,.ar 3 Bm)]⟩
def eG:List Ah:=[.ti,.tl Bm]
def kF:List AP:=[⟨.b,[],[.tb]⟩]
def lK:An:=.sq (.nd) (.sq (.sq (.nd) (.lp [0,1] [] ⟨[(5,.i .i64)],[]⟩ [.ti] [(1,⟨[(4,.lb true)],[]⟩),(2,⟨[],[]⟩)] [[],[]] (.nd))) (.nd))
theorem kq (k:Nat)(y:Tup eG):EX Tryz.f43 kL eG [1000000] kF lK [] k y=Yr k y.1 y.2:=by kernel_rfl
noncomputable def eF (k:Nat):Ao Tryz.prog:=CK 43 Tryz.func43 (kq k)
noncomputable def la (k:Nat)(x6:(List (Int × Int)))(z43:(Int × (List Int))):Option ((Int × (List Int)) ⊕ (List Int)) :=
cond (decide (z43.1 < (x6.length:Int))) (
(((ix x6 z43.1).bind fun a44 =>
(x6[z43.1.toNat]?).bind fun a45 =>
(Yr k a45.1 z43.2).bind fun y46 =>
cond (!y46) (
(ix x6 z43.1).bind fun a47 =>
(x6[z43.1.toNat]?).bind fun a48 =>
Ai (decide ((z43.2.length+[a48.1].length) * 8<=140737488355328)) <|
some (z43.2 ++ [a48.1])) (
some z43.2):Option (List Int))).bind fun y49 =>
some (.inl ((IntKind.wrap .i64 (z43.1+1)),y49))) (
some (.inr z43.2))
noncomputable def sx (k:Nat)(x1:(List Int))(x2:Int)(x3:Int)(x4:Int)(x5:(List AY))(x6:(List (Int × Int))):Option (List Int) :=
Ai (decide ((([]:List Int).length+x1.length) * 8<=140737488355328)) <|
(AE (la k x6) k (0,(([]:List Int) ++ x1))).bind fun y50 =>
some y50
def A41:AQ:=⟨[.fz .u Bm,.ag [.i .u32,.i .u32,.i .u32,.fz .u CF,.sl .u 1000000]],[(1000000,.ar 50 Db)]⟩
def uA:List Ah:=[.tl Bm,.ti,.ti,.ti,.tl CF,.tl Db]
def R41:List AP:=[⟨.sl .u 500000,[(500000,.ar 3 Bm)],[.tl Bm]⟩]
def n41:An:=.sq (.nd) (.sq (.nd) (.sq (.sq (.nd) (.lp [3] [3] ⟨[(5,.sl .n 300400),(6,.i .i64)],[(300400,.ar 3 Bm)]⟩ [.ti,.tl Bm] [(2,⟨[(5,.sl .n 300425)],[(300425,.ar 3 Bm)]⟩)] [[.tl Bm]] (.sq (.nd) (.jn [6] [] [(0,⟨[(5,.sl .n 300750)],[(300750,.ar 3 Bm)]⟩)] [[.tl Bm]] (.nd) (.nd))))) (.nd)))
theorem e41 (k:Nat)(y:Tup uA):EX Tryz.f41 A41 uA [1000000] R41 n41 [eF k] k y=sx k y.1 y.2.1 y.2.2.1 y.2.2.2.1 y.2.2.2.2.1 y.2.2.2.2.2:=by kernel_rfl
noncomputable def C41 (k:Nat):Ao Tryz.prog:=CK 41 Tryz.func41 (e41 k)
noncomputable def fD (k:Nat)(a229:(Int × Int × Int × ByteArray × Int × Int × Int))(x1:Int)(x2:Int)(x3:Int)(x4:JP)(z225:(Int × (List Cp)))(z230:(Bool × Int × (List BV) × (List (Int × Int)))):Option ((Bool × Int × (List BV) × (List (Int × Int))) ⊕ (Bool × (List BV) × (List (Int × Int)))) :=
cond (decide (z230.2.1<=z225.1)) (
((cond z230.1 (
cond (z230.2.1 == (IntKind.wrap .i64 (z225.1 - (IntKind.wrap .i64 a229.2.2.1)))) (
some true) (
(ix x4 (IntKind.wrap .i64 (z230.2.1 - 1))).bind fun a231 =>
(ix x4 z230.2.1).bind fun a232 =>
(uB k x1 x2 x3 a231.1 a231.2.1 a231.2.2.1 a231.2.2.2.1 a231.2.2.2.2.1 a231.2.2.2.2.2.1 a231.2.2.2.2.2.2 a232.1 a232.2.1 a232.2.2.1 a232.2.2.2.1 a232.2.2.2.2.1 a232.2.2.2.2.2.1 a232.2.2.2.2.2.2).bind fun y233 =>
some y233)) (
some false):Option Bool)).bind fun y234 =>
(ix x4 z230.2.1).bind fun a235 =>
Ai (decide ((z230.2.2.1.length+[(a235.1,a235.2.1,a235.2.2.1,a235.2.2.2.1)].length) * 32<=140737488355328)) <|
(ix x4 z230.2.1).bind fun a236 =>
Ai (decide ((z230.2.2.2.length+[(a236.2.2.2.2.2.1,a236.2.2.2.2.2.2)].length) * 16<=140737488355328)) <|
some (.inl (y234,(IntKind.wrap .i64 (z230.2.1+1)),(z230.2.2.1 ++ [(a235.1,a235.2.1,a235.2.2.1,a235.2.2.2.1)]),(z230.2.2.2 ++ [(a236.2.2.2.2.2.1,a236.2.2.2.2.2.2)])))) (
some (.inr (z230.1,z230.2.2.1,z230.2.2.2)))
noncomputable def lZ (k:Nat)(x1:Int)(x2:Int)(x3:Int)(x4:JP)(z225:(Int × (List Cp))):Option ((Int × (List Cp)) ⊕ (List Cp)) :=
cond (decide (z225.1 < (x4.length:Int))) (
(((((ix x4 z225.1).bind fun a226 =>
cond (a226.1 != 3) (
some true) (
(ix x4 z225.1).bind fun a227 =>
some (decide ((IntKind.wrap .u64 z225.1) < (IntKind.wrap .u64 a227.2.2.1)))):Option Bool)).bind fun y228 =>
cond y228 (
some z225.2) (
(ix x4 z225.1).bind fun a229 =>
(AE (fD k a229 x1 x2 x3 x4 z225) k (true,(IntKind.wrap .i64 (z225.1 - (IntKind.wrap .i64 a229.2.2.1))),([]:List BV),([]:List (Int × Int)))).bind fun y237 =>
(pW k y237.2.1).bind fun y238 =>
((cond y237.1 (
cond (y238.2.2.2.2 == 0) (
(sx k ([]:List Int) y238.1 y238.2.1 y238.2.2.1 y238.2.2.2.1 y237.2.2).bind fun y239 =>
some (decide ((y239.length:Int)<=(IntKind.wrap .i64 (x3 - 2))))) (
some false)) (
some false):Option Bool)).bind fun y240 =>
cond y240 (
Ai (decide ((z225.2.length+[(y238.1,y238.2.1,y238.2.2.1,y238.2.2.2.1,y237.2.2)].length) * 64<=140737488355328)) <|
some (z225.2 ++ [(y238.1,y238.2.1,y238.2.2.1,y238.2.2.2.1,y237.2.2)])) (
some z225.2)):Option (List Cp))).bind fun y241 =>
some (.inl ((IntKind.wrap .i64 (z225.1+1)),y241))) (
some (.inr z225.2))
noncomputable def uR (k:Nat)(x1:Int)(x2:Int)(x3:Int)(x4:JP):Option (List Cp) :=
(AE (lZ k x1 x2 x3 x4) k (0,([]:List Cp))).bind fun y242 =>
some y242
def A39:AQ:=⟨[.ag [.i .i64,.i .i64,.i .i64],.fz .u Xm],[]⟩
def uF:List Ah:=[.ti,.ti,.ti,.tl Xm]
def R39:List AP:=[⟨.sl .u 500000,[(500000,.ar 47 Cl)],[.tl Cl]⟩]
def n39:An:=.sq (.nd) (.sq (.nd) (.sq (.sq (.nd) (.lp [1,2] [2] ⟨[(5,.sl .n 300400),(6,.i .i64)],[(300400,.ar 47 Cl)]⟩ [.ti,.tl Cl] [(2,⟨[(5,.sl .n 300425)],[(300425,.ar 47 Cl)]⟩)] [[.tl Cl]] (.sq (.nd) (.jn [6] [] [(0,⟨[(5,.sl .n 300750)],[(300750,.ar 47 Cl)]⟩)] [[.tl Cl]] (.sq (.jn [5] [300400] [(0,⟨[(39,.b)],[]⟩)] [[.tb]] (.nd) (.nd)) (.sq (.nd) (.sq (.nd) (.sq (.nd) (.sq (.nd) (.sq (.sq (.nd) (.lp [5,7] [300400] ⟨[(8,.b),(9,.sl .n 301750),(10,.sl .n 301751),(11,.i .i64)],[(301750,.ar 54 DF),(301751,.ar 50 Db)]⟩ [.tb,.ti,.tl DF,.tl Db] [(4,⟨[(8,.b),(9,.sl .n 301775),(10,.sl .n 301776)],[(301775,.ar 54 DF),(301776,.ar 50 Db)]⟩)] [[.tb,.tl DF,.tl Db]] (.sq (.nd) (.sq (.jn [9,10,11] [301750,301751] [(0,⟨[(8,.b)],[]⟩)] [[.tb]] (.mk [] [0,1,3,3,15,31,63,63,63,319,959,1983,63,63,12351,28735,65535,131071,262143,524287]) (.nd)) (.nd))))) (.sq (.fr [(1,301775)]) (.sq (.nd) (.jn [5,14] [14,300400,301776] [(0,⟨[(111,.b)],[]⟩)] [[.tb]] (.mk [] [0,1,3,7,15,31,63,127,255,63,575,1599,4095,8191]) (.sq (.fr [(2,301776)]) (.nd))))))))))) (.nd))))) (.nd)))
theorem e39 (k:Nat)(y:Tup uF):EX Tryz.f39 A39 uF [] R39 n39 [C62 k,tD k,C41 k] k y=uR k y.1 y.2.1 y.2.2.1 y.2.2.2:=by kernel_rfl
noncomputable def C39 (k:Nat):Ao Tryz.prog:=CK 39 Tryz.func39 (e39 k)
noncomputable def VI (k:Nat)(x1:(List Cp))(z18:(Int × Int)):Option ((Int × Int) ⊕ Int) :=
cond (decide (z18.2 < (x1.length:Int))) (
((((cond (decide (z18.1 < 0)) (
some true) (
(ix x1 z18.2).bind fun a19 =>
(ix x1 z18.1).bind fun a20 =>
some (decide (a20.1<=a19.1))):Option Bool)).bind fun y21 =>
cond y21 (
some z18.2) (
some z18.1):Option Int)).bind fun y22 =>
some (.inl (y22,(IntKind.wrap .i64 (z18.2+1))))) (
some (.inr z18.1))
noncomputable def mm (k:Nat)(x1:(List Cp)):Option (Int × Int × Int × (List AY) × (List (Int × Int)) × Bool) :=
(AE (VI k x1) k ((-1),0)).bind fun y23 =>
cond (decide (y23 < 0)) (
some (0,0,0,([]:List AY),([]:List (Int × Int)),false)) (
(ix x1 y23).bind fun a24 =>
some (a24.1,a24.2.1,a24.2.2.1,a24.2.2.2.1,a24.2.2.2.2,true))
def A40:AQ:=⟨[.fz .u Cl],[]⟩
def um:List Ah:=[.tl Cl]
def R40:List AP:=[⟨.tp [.ag [.i .u32,.i .u32,.i .u32,.fz .u CF,.fz .u Db],.b],[],[.ti,.ti,.ti,.tl CF,.tl Db,.tb]⟩]
def n40:An:=.sq (.nd) (.sq (.nd) (.sq (.sq (.nd) (.lp [0,2] [2] ⟨[(4,.i .i64),(5,.i .i64)],[]⟩ [.ti,.ti] [(2,⟨[(4,.i .i64)],[]⟩)] [[.ti]] (.sq (.nd) (.jn [5] [] [(0,⟨[(4,.i .i64)],[]⟩)] [[.ti]] (.jn [4] [] [(0,⟨[(28,.b)],[]⟩)] [[.tb]] (.mk [] [0,1,3,7,7,31,63,127,255,7,7,1543,3591,7687,15879,32767,65535]) (.nd)) (.nd))))) (.nd)))
theorem e40 (k:Nat)(y:Tup um):EX Tryz.f40 A40 um [] R40 n40 [] k y=mm k y:=by kernel_rfl
noncomputable def C40 (k:Nat):Ao Tryz.prog:=CK 40 Tryz.func40 (e40 k)
noncomputable def bW (k:Nat)(x6:(List (Int × Int)))(z29:(Int × (List Int))):Option ((Int × (List Int)) ⊕ (List Int)) :=
cond (decide (z29.1 < (x6.length:Int))) (
(((ix x6 z29.1).bind fun a30 =>
(Yr k a30.1 z29.2).bind fun y31 =>
cond (!y31) (
(ix x6 z29.1).bind fun a32 =>
Ai (decide ((z29.2.length+[a32.1].length) * 8<=140737488355328)) <|
some (z29.2 ++ [a32.1])) (
some z29.2):Option (List Int))).bind fun y33 =>
some (.inl ((IntKind.wrap .i64 (z29.1+1)),y33))) (
some (.inr z29.2))
noncomputable def bG (k:Nat)(x1:(List Int))(x2:Int)(x3:Int)(x4:Int)(x5:(List AY))(x6:(List (Int × Int))):Option (List Int) :=
Ai (decide ((([]:List Int).length+x1.length) * 8<=140737488355328)) <|
(AE (bW k x6) k (0,(([]:List Int) ++ x1))).bind fun y34 =>
some y34
def lh:AQ:=⟨[.fz .u Bm,.ag [.i .u32,.i .u32,.i .u32,.fz .u CF,.fz .u Db]],[]⟩
def eL:List Ah:=[.tl Bm,.ti,.ti,.ti,.tl CF,.tl Db]
def lr:List AP:=[⟨.sl .u 500000,[(500000,.ar 3 Bm)],[.tl Bm]⟩]
def lg:An:=.sq (.nd) (.sq (.nd) (.sq (.sq (.nd) (.lp [3] [3] ⟨[(5,.sl .n 300400),(6,.i .i64)],[(300400,.ar 3 Bm)]⟩ [.ti,.tl Bm] [(2,⟨[(5,.sl .n 300425)],[(300425,.ar 3 Bm)]⟩)] [[.tl Bm]] (.sq (.nd) (.jn [6] [] [(0,⟨[(5,.sl .n 300750)],[(300750,.ar 3 Bm)]⟩)] [[.tl Bm]] (.nd) (.nd))))) (.nd)))
theorem mb (k:Nat)(y:Tup eL):EX Tryz.f41 lh eL [] lr lg [eF k] k y=bG k y.1 y.2.1 y.2.2.1 y.2.2.2.1 y.2.2.2.2.1 y.2.2.2.2.2:=by kernel_rfl
noncomputable def eD (k:Nat):Ao Tryz.prog:=CK 41 Tryz.func41 (mb k)
noncomputable def mQ (k:Nat)(x3:Int)(x4:(List Cp))(x5:Int)(x6:(List Int))(z31:Int):Option (Int ⊕ (Cp ⊕ Unit)) :=
cond (decide (0<=z31)) (
(((ix x4 z31).bind fun a32 =>
cond (a32.1 == x5) (
(ix x4 z31).bind fun a33 =>
(bG k x6 a33.1 a33.2.1 a33.2.2.1 a33.2.2.2.1 a33.2.2.2.2).bind fun y34 =>
some (decide ((y34.length:Int) < x3))) (
some false):Option Bool)).bind fun y35 =>
cond y35 (
(ix x4 z31).bind fun a36 =>
some (.inr (.inl (a36.1,a36.2.1,a36.2.2.1,a36.2.2.2.1,a36.2.2.2.2)))) (
some (.inl (IntKind.wrap .i64 (z31 - 1))))) (
some (.inr (.inr ())))
noncomputable def tX (k:Nat)(x1:Int)(x2:Int)(x3:Int)(x4:(List Cp))(x5:Int)(x6:(List Int)):Option (Int × Int × Int × (List AY) × (List (Int × Int)) × Bool) :=
(AE (mQ k x3 x4 x5 x6) k (IntKind.wrap .i64 ((x4.length:Int) - 1))).bind fun y37 =>
BN (fun y38 =>
some (y38.1,y38.2.1,y38.2.2.1,y38.2.2.2.1,y38.2.2.2.2,true)) (fun y39 =>
some (0,0,0,([]:List AY),([]:List (Int × Int)),false)) y37
def A42:AQ:=⟨[.ag [.i .i64,.i .i64,.i .i64],.fz .u Cl,.i .u32,.fz .u Bm],[]⟩
def ur:List Ah:=[.ti,.ti,.ti,.tl Cl,.ti,.tl Bm]
def R42:List AP:=[⟨.tp [.ag [.i .u32,.i .u32,.i .u32,.fz .u CF,.fz .u Db],.b],[],[.ti,.ti,.ti,.tl CF,.tl Db,.tb]⟩]
def n42:An:=.sq (.nd) (.sq (.sq (.nd) (.lp [1,2,3,4,8] [4] ⟨[(10,.i .i64)],[(8,.bx 47 [.li .u32 0,.li .u32 0,.li .u32 0,.c (.slice none 0 0),.c (.slice none 0 0)])]⟩ [.ti] [(1,⟨[(9,.lb true)],[(8,.bx 47 [.i .u32,.i .u32,.i .u32,.fz .u CF,.fz .u Db])]⟩),(2,⟨[],[(8,.bx 47 [.li .u32 0,.li .u32 0,.li .u32 0,.c (.slice none 0 0),.c (.slice none 0 0)])]⟩)] [[.ti,.ti,.ti,.tl CF,.tl Db],[]] (.sq (.nd) (.sq (.jn [10] [8] [(0,⟨[(37,.b)],[]⟩)] [[.tb]] (.mk [] [0,0,3,7,15,31,0,127,255,511,511,511,3583,7679,16383,32767,511,66047,262143,524287]) (.nd)) (.nd))))) (.nd))
theorem e42 (k:Nat)(y:Tup ur):EX Tryz.f42 A42 ur [] R42 n42 [eD k] k y=tX k y.1 y.2.1 y.2.2.1 y.2.2.2.1 y.2.2.2.2.1 y.2.2.2.2.2:=by kernel_rfl
noncomputable def C42 (k:Nat):Ao Tryz.prog:=CK 42 Tryz.func42 (e42 k)
noncomputable def jJ (k:Nat)(y2:JP)(z51:(Int × Int)):Option ((Int × Int) ⊕ Int) :=
cond (decide (z51.2 < (y2.length:Int))) (
(((ix y2 z51.2).bind fun a52 =>
(y2[z51.2.toNat]?).bind fun a53 =>
cond (a53.1 != 4) (
some z51.1) (
((cond (decide (z51.1 < 0)) (
some true) (
(ix y2 z51.1).bind fun a54 =>
(y2[z51.1.toNat]?).bind fun a55 =>
cond (decide (a55.2.1 < a53.2.1)) (
some true) (
(ix y2 z51.1).bind fun a56 =>
(y2[z51.1.toNat]?).bind fun a57 =>
cond (a53.2.1 == a57.2.1) (
(ix y2 z51.1).bind fun a58 =>
(y2[z51.1.toNat]?).bind fun a59 =>
some (decide (a59.2.2.1<=a53.2.2.1))) (
some false))):Option Bool)).bind fun y60 =>
cond y60 (
some z51.2) (
some z51.1)):Option Int)).bind fun y61 =>
some (.inl (y61,(IntKind.wrap .i64 (z51.2+1))))) (
some (.inr z51.1))
noncomputable def jW (k:Nat)(y77:(List Cp))(z106:((List Int) × Bool × Int × Int × Int × Int × Int × Int × Int × Int × Int × (List AY) × (List (Int × Int)) × (List Cp))):Option (((List Int) × Bool × Int × Int × Int × Int × Int × Int × Int × Int × Int × (List AY) × (List (Int × Int)) × (List Cp)) ⊕ ((List Int) × Int × Int × Int × Int × Int × Int × Int × Int × Int × (List AY) × (List (Int × Int)) × (List Cp))) :=
((cond z106.2.1 (
some (decide (z106.2.2.2.2.2.1 < z106.2.2.2.2.2.2.2.2.1))) (
some false):Option Bool)).bind fun y107 =>
cond y107 (
(bG k z106.1 z106.2.2.2.2.2.2.2.2.1 z106.2.2.2.2.2.2.2.2.2.1 z106.2.2.2.2.2.2.2.2.2.2.1 z106.2.2.2.2.2.2.2.2.2.2.2.1 z106.2.2.2.2.2.2.2.2.2.2.2.2.1).bind fun y108 =>
Ai (decide (([(z106.2.2.2.2.2.2.2.2.1,z106.2.2.2.2.2.2.2.2.2.1,z106.2.2.2.2.2.2.2.2.2.2.1,z106.2.2.2.2.2.2.2.2.2.2.2.1,z106.2.2.2.2.2.2.2.2.2.2.2.2.1)].length+z106.2.2.2.2.2.2.2.2.2.2.2.2.2.length) * 64<=140737488355328)) <|
cond (decide (z106.2.2.2.2.2.2.2.2.2.1<=z106.2.2.2.2.2.1)) (
some (.inr (y108,z106.2.2.1,z106.2.2.2.1,z106.2.2.2.2.1,z106.2.2.2.2.2.1,z106.2.2.2.2.2.2.1,z106.2.2.2.2.2.2.2.1,z106.2.2.2.2.2.2.2.2.1,z106.2.2.2.2.2.2.2.2.2.1,z106.2.2.2.2.2.2.2.2.2.2.1,z106.2.2.2.2.2.2.2.2.2.2.2.1,z106.2.2.2.2.2.2.2.2.2.2.2.2.1,([(z106.2.2.2.2.2.2.2.2.1,z106.2.2.2.2.2.2.2.2.2.1,z106.2.2.2.2.2.2.2.2.2.2.1,z106.2.2.2.2.2.2.2.2.2.2.2.1,z106.2.2.2.2.2.2.2.2.2.2.2.2.1)] ++ z106.2.2.2.2.2.2.2.2.2.2.2.2.2)))) (
(tX k z106.2.2.1 z106.2.2.2.1 z106.2.2.2.2.1 y77 z106.2.2.2.2.2.2.2.2.2.1 y108).bind fun y109 =>
cond (!y109.2.2.2.2.2) (
some (.inl (y108,y109.2.2.2.2.2,z106.2.2.1,z106.2.2.2.1,z106.2.2.2.2.1,z106.2.2.2.2.2.2.2.2.2.1,(mx z106.2.2.2.2.2.2.1 z106.2.2.2.2.2.2.2.2.2.1),z106.2.2.2.2.2.2.2.1,y109.1,y109.2.1,y109.2.2.1,y109.2.2.2.1,y109.2.2.2.2.1,([(z106.2.2.2.2.2.2.2.2.1,z106.2.2.2.2.2.2.2.2.2.1,z106.2.2.2.2.2.2.2.2.2.2.1,z106.2.2.2.2.2.2.2.2.2.2.2.1,z106.2.2.2.2.2.2.2.2.2.2.2.2.1)] ++ z106.2.2.2.2.2.2.2.2.2.2.2.2.2)))) (
some (.inl (y108,y109.2.2.2.2.2,z106.2.2.1,z106.2.2.2.1,z106.2.2.2.2.1,z106.2.2.2.2.2.1,z106.2.2.2.2.2.2.1,z106.2.2.2.2.2.2.2.1,y109.1,y109.2.1,y109.2.2.1,y109.2.2.2.1,y109.2.2.2.2.1,([(z106.2.2.2.2.2.2.2.2.1,z106.2.2.2.2.2.2.2.2.2.1,z106.2.2.2.2.2.2.2.2.2.2.1,z106.2.2.2.2.2.2.2.2.2.2.2.1,z106.2.2.2.2.2.2.2.2.2.2.2.2.1)] ++ z106.2.2.2.2.2.2.2.2.2.2.2.2.2)))))) (
some (.inr (z106.1,z106.2.2.1,z106.2.2.2.1,z106.2.2.2.2.1,z106.2.2.2.2.2.1,z106.2.2.2.2.2.2.1,z106.2.2.2.2.2.2.2.1,z106.2.2.2.2.2.2.2.2.1,z106.2.2.2.2.2.2.2.2.2.1,z106.2.2.2.2.2.2.2.2.2.2.1,z106.2.2.2.2.2.2.2.2.2.2.2.1,z106.2.2.2.2.2.2.2.2.2.2.2.2.1,z106.2.2.2.2.2.2.2.2.2.2.2.2.2)))
noncomputable def fN (k:Nat)(y110:((List Int) × Int × Int × Int × Int × Int × Int × Int × Int × Int × (List AY) × (List (Int × Int)) × (List Cp)))(z127:(Int × Int × Int × Int × (List Int))):Option ((Int × Int × Int × Int × (List Int)) ⊕ (Int × Int × Int × (List Int))) :=
cond (decide (z127.1 < y110.2.2.2.1)) (
(((ry k y110.1 z127.1).bind fun y128 =>
cond y128 (
Ai (decide ((z127.2.2.2.2.length+[z127.1].length) * 8<=140737488355328)) <|
some (z127.2.1,z127.2.2.1,z127.2.2.2.1,(z127.2.2.2.2 ++ [z127.1]))) (
some (z127.2.1,z127.2.2.1,z127.2.2.2.1,z127.2.2.2.2)):Option (Int × Int × Int × (List Int)))).bind fun y129 =>
some (.inl ((IntKind.wrap .i64 (z127.1+1)),y129.1,y129.2.1,y129.2.2.1,y129.2.2.2))) (
some (.inr (z127.2.1,z127.2.2.1,z127.2.2.2.1,z127.2.2.2.2)))
noncomputable def bk (k:Nat)(y2:JP)(y110:((List Int) × Int × Int × Int × Int × Int × Int × Int × Int × Int × (List AY) × (List (Int × Int)) × (List Cp)))(z169:(Int × Int × Int × Int × Int × Int)):Option ((Int × Int × Int × Int × Int × Int) ⊕ (Int × Int × Int × Int × Int)) :=
cond (decide (z169.1 < (y2.length:Int))) (
(((ix y2 z169.1).bind fun a170 =>
(ry k y110.1 a170.2.2.2.2.2.1).bind fun y171 =>
cond y171 (
(ix y2 z169.1).bind fun a172 =>
some (z169.2.1,z169.2.2.1,z169.2.2.2.1,z169.2.2.2.2.1,(mx z169.2.2.2.2.2 a172.2.1))) (
some (z169.2.1,z169.2.2.1,z169.2.2.2.1,z169.2.2.2.2.1,z169.2.2.2.2.2)):Option (Int × Int × Int × Int × Int))).bind fun y173 =>
some (.inl ((IntKind.wrap .i64 (z169.1+1)),y173.1,y173.2.1,y173.2.2.1,y173.2.2.2.1,y173.2.2.2.2))) (
some (.inr (z169.2.1,z169.2.2.1,z169.2.2.2.1,z169.2.2.2.2.1,z169.2.2.2.2.2)))
noncomputable def ui (k:Nat)(x1:Int)(x2:Int)(x3:Int)(x4:(List Ax)):Option (Int × Int × Int × (List Cp) × (List Int) × Int × Int) :=
(uk k x4).bind fun y2 =>
(AE (jJ k y2) k ((-1),0)).bind fun y62 =>
((cond (decide (0<=y62)) (
(ix y2 y62).bind fun a69 =>
(y2[y62.toNat]?).bind fun a70 =>
(aq k a70.2.2.2.1 0).bind fun y72 =>
(ix y2 y62).bind fun a73 =>
(y2[y62.toNat]?).bind fun a74 =>
some (a70.2.1,y72,a70.2.2.1,[a74.2.2.2.2.2.1])) (
some (0,0,0,([]:List Int))):Option (Int × Int × Int × (List Int)))).bind fun y75 =>
(uR k x1 x2 x3 y2).bind fun y77 =>
(mm k y77).bind fun y79 =>
(AE (jW k y77) k (y75.2.2.2,y79.2.2.2.2.2,x1,x2,x3,y75.1,y75.2.1,y75.2.2.1,y79.1,y79.2.1,y79.2.2.1,y79.2.2.2.1,y79.2.2.2.2.1,([]:List Cp))).bind fun y110 =>
(AE (fN k y110) k (0,y110.2.2.2.2.1,y110.2.2.2.2.2.1,y110.2.2.2.2.2.2.1,([]:List Int))).bind fun y130 =>
((cond (decide (0 < (y110.2.2.2.2.2.2.2.2.2.2.2.2.length:Int))) (
(ix y110.2.2.2.2.2.2.2.2.2.2.2.2 (IntKind.wrap .i64 ((y110.2.2.2.2.2.2.2.2.2.2.2.2.length:Int) - 1))).bind fun a133 =>
(y110.2.2.2.2.2.2.2.2.2.2.2.2[(IntKind.wrap .i64 ((y110.2.2.2.2.2.2.2.2.2.2.2.2.length:Int) - 1)).toNat]?).bind fun a134 =>
some (y130.1,y130.2.1,y130.2.2.1,(mx y130.1 a134.1))) (
some (y130.1,y130.2.1,y130.2.2.1,y130.1)):Option (Int × Int × Int × Int))).bind fun y135 =>
(AE (bk k y2 y110) k (0,y135.1,y135.2.1,y135.2.2.1,y135.2.2.2,y135.2.2.2)).bind fun y174 =>
some (y174.1,y174.2.1,y174.2.2.1,y110.2.2.2.2.2.2.2.2.2.2.2.2,y130.2.2.2,y174.2.2.2.1,(IntKind.wrap .u32 (y174.2.2.2.2+1)))
def A14:AQ:=⟨[.ag [.i .i64,.i .i64,.i .i64],.sl .u 1000000],[(1000000,.ar 52 Ck)]⟩
def tK:List Ah:=[.ti,.ti,.ti,.tl Ck]
def R14:List AP:=[⟨.ag [.i .u32,.i .u32,.i .u32,.fz .u Cl,.fz .u Bm,.i .u32,.i .u32],[],[.ti,.ti,.ti,.tl Cl,.tl Bm,.ti,.ti]⟩]
def n14:An:=.sq (.nd) (.sq (.nd) (.sq (.nd) (.sq (.nd) (.sq (.sq (.nd) (.lp [2,4,5,6] [2,4,6,402000] ⟨[(7,.i .i64),(8,.i .i64)],[]⟩ [.ti,.ti] [(2,⟨[(7,.i .i64)],[]⟩)] [[.ti]] (.sq (.nd) (.jn [8] [] [(0,⟨[(7,.i .i64)],[]⟩)] [[.ti]] (.sq (.nd) (.sq (.nd) (.jn [7] [] [(0,⟨[(69,.b)],[]⟩)] [[.tb]] (.mk [] [0,1,3,7,15,7,7,103,231,487,999,2047,4095,8191,16383,32767,16383,16383,212991,475135,999423,2047999,4194303,8388607,16777215,33554431,16777215,16777215,218103807,486539263,1023410175,2097151999,4294967295,8589934591,17179869183]) (.nd)))) (.nd))))) (.sq (.nd) (.jn [2,4,5,6] [2,4,402000] [(0,⟨[(10,.sl .u 301850)],[(6,.bx 35 [.i .u32,.i .u32,.i .u32,.c (.slice none 0 0),.c (.slice none 0 0),.li .u32 0,.li .u32 0]),(301850,.ar 3 Bm)]⟩)] [[.ti,.ti,.ti,.tl Bm]] (.sq (.nd) (.sq (.sq (.nd) (.sq (.mk [] [0,1,0,4,0,16,48,3,243,511,1023,2047,4095]) (.nd))) (.nd))) (.sq (.fr [(2,402000)]) (.sq (.fr [(1,409700)]) (.sq (.lp [2,4,5,6,12,13] [] ⟨[(10,.fz .u Bm),(14,.b)],[(2,.bx 23 [.i .i64,.i .i64,.i .i64]),(4,.bx 35 [.li .u32 0,.li .u32 0,.li .u32 0,.c (.slice none 0 0),.c (.slice none 0 0),.li .u32 0,.li .u32 0]),(6,.bx 35 [.i .u32,.i .u32,.i .u32,.sl .u 302650,.c (.slice none 0 0),.li .u32 0,.li .u32 0]),(13,.bx 47 [.i .u32,.i .u32,.i .u32,.fz .u CF,.fz .u Db]),(302650,.ar 47 Cl)]⟩ [.tl Bm,.tb,.ti,.ti,.ti,.ti,.ti,.ti,.ti,.ti,.ti,.tl CF,.tl Db,.tl Cl] [(4,⟨[(10,.fz .u Bm)],[(2,.bx 23 [.i .i64,.i .i64,.i .i64]),(4,.bx 35 [.li .u32 0,.li .u32 0,.li .u32 0,.c (.slice none 0 0),.c (.slice none 0 0),.li .u32 0,.li .u32 0]),(6,.bx 35 [.i .u32,.i .u32,.i .u32,.sl .u 302675,.c (.slice none 0 0),.li .u32 0,.li .u32 0]),(13,.bx 47 [.i .u32,.i .u32,.i .u32,.fz .u CF,.fz .u Db]),(302675,.ar 47 Cl)]⟩)] [[.tl Bm,.ti,.ti,.ti,.ti,.ti,.ti,.ti,.ti,.ti,.tl CF,.tl Db,.tl Cl]] (.sq (.jn [10] [2,4,6,13,302650] [(0,⟨[(111,.b)],[]⟩)] [[.tb]] (.nd) (.nd)) (.sq (.nd) (.sq (.nd) (.sq (.nd) (.sq (.nd) (.sq (.fr [(4,411400)]) (.nd)))))))) (.sq (.sq (.nd) (.lp [2,4,5,6,10] [2,4,302675] ⟨[(16,.i .i64)],[(6,.bx 35 [.i .u32,.i .u32,.i .u32,.sl .u 302675,.sl .n 304300,.li .u32 0,.li .u32 0]),(304300,.ar 3 Bm)]⟩ [.ti,.ti,.ti,.ti,.tl Bm] [(6,⟨[],[(6,.bx 35 [.i .u32,.i .u32,.i .u32,.sl .u 302675,.sl .n 304325,.li .u32 0,.li .u32 0]),(304325,.ar 3 Bm)]⟩)] [[.ti,.ti,.ti,.tl Bm]] (.sq (.nd) (.jn [16] [] [(0,⟨[],[(6,.bx 35 [.i .u32,.i .u32,.i .u32,.sl .u 302675,.sl .n 304650,.li .u32 0,.li .u32 0]),(304650,.ar 3 Bm)]⟩)] [[.ti,.ti,.ti,.tl Bm]] (.nd) (.nd))))) (.sq (.nd) (.jn [4,5,6,10] [4,302675,304325] [(0,⟨[],[(6,.bx 35 [.i .u32,.i .u32,.i .u32,.sl .u 302675,.sl .n 304325,.i .u32,.li .u32 0])]⟩)] [[.ti,.ti,.ti,.ti]] (.sq (.nd) (.sq (.nd) (.sq (.mk [] [0,1,0,4,0,16,60,124,252,508,1023,2047,4095]) (.nd)))) (.sq (.nd) (.sq (.sq (.nd) (.lp [4,5,6,10] [4,302675,304325] ⟨[(18,.i .i64)],[(6,.bx 35 [.i .u32,.i .u32,.i .u32,.sl .u 302675,.sl .n 304325,.i .u32,.i .u32])]⟩ [.ti,.ti,.ti,.ti,.ti,.ti] [(8,⟨[],[(6,.bx 35 [.i .u32,.i .u32,.i .u32,.sl .u 302675,.sl .n 304325,.i .u32,.i .u32])]⟩)] [[.ti,.ti,.ti,.ti,.ti]] (.sq (.nd) (.jn [18] [] [(0,⟨[],[(6,.bx 35 [.i .u32,.i .u32,.i .u32,.sl .u 302675,.sl .n 304325,.i .u32,.i .u32])]⟩)] [[.ti,.ti,.ti,.ti,.ti]] (.sq (.nd) (.sq (.mk [] [0,1,0,0,12,28,60,124,255,511,1023]) (.nd))) (.nd))))) (.nd)))))))))))))))
theorem e14 (k:Nat)(y:Tup tK):EX Tryz.f14 A14 tK [1000000] R14 n14 [C37 k,qT k,C39 k,C40 k,eD k,C42 k,C43 k] k y=ui k y.1 y.2.1 y.2.2.1 y.2.2.2:=by kernel_rfl
noncomputable def C14 (k:Nat):Ao Tryz.prog:=CK 14 Tryz.func14 (e14 k)
noncomputable def iY (k:Nat)(x1:(List Int))(x2:(List Int))(z15:Int):Option (Int ⊕ (Unit ⊕ Unit)) :=
cond (decide (z15 < (x1.length:Int))) (
(ix x1 z15).bind fun a16 =>
(ix x2 z15).bind fun a17 =>
cond (a16 != a17) (
some (.inr (.inl ()))) (
some (.inl (IntKind.wrap .i64 (z15+1))))) (
some (.inr (.inr ())))
noncomputable def ue (k:Nat)(x1:(List Int))(x2:(List Int)):Option Bool :=
cond ((x1.length:Int) != (x2.length:Int)) (
some false) (
(AE (iY k x1 x2) k 0).bind fun y18 =>
BN (fun y19 =>
some false) (fun y20 =>
some true) y18)
def A26:AQ:=⟨[.fz .u Bm,.fz .u Bm],[]⟩
def tN:List Ah:=[.tl Bm,.tl Bm]
def R26:List AP:=[⟨.b,[],[.tb]⟩]
def n26:An:=.sq (.nd) (.sq (.nd) (.sq (.sq (.nd) (.lp [0,1] [] ⟨[(5,.i .i64)],[]⟩ [.ti] [(1,⟨[(4,.lb false)],[]⟩),(2,⟨[],[]⟩)] [[],[]] (.sq (.nd) (.sq (.sq (.mk [] [0,0,3,7,0,0,48,112,255]) (.nd)) (.nd))))) (.nd)))
theorem e26 (k:Nat)(y:Tup tN):EX Tryz.f26 A26 tN [] R26 n26 [] k y=ue k y.1 y.2:=by kernel_rfl
noncomputable def C26 (k:Nat):Ao Tryz.prog:=CK 26 Tryz.func26 (e26 k)
noncomputable def iC (k:Nat)(x1:(List AY))(x2:(List AY))(z15:Int):Option (Int ⊕ (Unit ⊕ Unit)) :=
cond (decide (z15 < (x1.length:Int))) (
(ix x1 z15).bind fun a16 =>
(ix x2 z15).bind fun a17 =>
cond (!((a16.1.toList == a17.1.toList) && ((a16.2.1 == a17.2.1) && ((a16.2.2.toList == a17.2.2.toList) && true)))) (
some (.inr (.inl ()))) (
some (.inl (IntKind.wrap .i64 (z15+1))))) (
some (.inr (.inr ())))
noncomputable def tc (k:Nat)(x1:(List AY))(x2:(List AY)):Option Bool :=
cond ((x1.length:Int) != (x2.length:Int)) (
some false) (
(AE (iC k x1 x2) k 0).bind fun y18 =>
BN (fun y19 =>
some false) (fun y20 =>
some true) y18)
def A49:AQ:=⟨[.fz .u CF,.fz .u CF],[]⟩
def uu:List Ah:=[.tl CF,.tl CF]
def R49:List AP:=[⟨.b,[],[.tb]⟩]
def n49:An:=.sq (.nd) (.sq (.nd) (.sq (.sq (.nd) (.lp [0,1] [] ⟨[(5,.i .i64)],[]⟩ [.ti] [(1,⟨[(4,.lb false)],[]⟩),(2,⟨[],[]⟩)] [[],[]] (.sq (.nd) (.sq (.sq (.mk [] [0,0,3,7,0,0,48,112,255]) (.nd)) (.nd))))) (.nd)))
theorem e49 (k:Nat)(y:Tup uu):EX Tryz.f49 A49 uu [] R49 n49 [] k y=tc k y.1 y.2:=by kernel_rfl
noncomputable def C49 (k:Nat):Ao Tryz.prog:=CK 49 Tryz.func49 (e49 k)
noncomputable def qU (k:Nat)(x1:Int)(x2:Int)(x3:Int)(x4:(List AY))(x5:Int)(x6:Int)(x7:Int)(x8:(List AY)):Option Bool :=
cond (x1 == x5) (
cond (x2 == x6) (
cond (x3 == x7) (
(tc k x4 x8).bind fun y1 =>
some y1) (
some false)) (
some false)) (
some false)
def A17:AQ:=⟨[.ag [.i .u32,.i .u32,.i .u32,.fz .u CF],.ag [.i .u32,.i .u32,.i .u32,.fz .u CF]],[]⟩
def tB:List Ah:=[.ti,.ti,.ti,.tl CF,.ti,.ti,.ti,.tl CF]
def R17:List AP:=[⟨.b,[],[.tb]⟩]
def n17:An:=.nd
theorem e17 (k:Nat)(y:Tup tB):EX Tryz.f17 A17 tB [] R17 n17 [C49 k] k y=qU k y.1 y.2.1 y.2.2.1 y.2.2.2.1 y.2.2.2.2.1 y.2.2.2.2.2.1 y.2.2.2.2.2.2.1 y.2.2.2.2.2.2.2:=by kernel_rfl
noncomputable def tz (k:Nat):Ao Tryz.prog:=CK 17 Tryz.func17 (e17 k)
noncomputable def gr (k:Nat)(x1:(List (Int × Int)))(x2:(List (Int × Int)))(z15:Int):Option (Int ⊕ (Unit ⊕ Unit)) :=
cond (decide (z15 < (x1.length:Int))) (
(ix x1 z15).bind fun a16 =>
(ix x2 z15).bind fun a17 =>
cond (!((a16.1 == a17.1) && ((a16.2 == a17.2) && true))) (
some (.inr (.inl ()))) (
some (.inl (IntKind.wrap .i64 (z15+1))))) (
some (.inr (.inr ())))
noncomputable def ud (k:Nat)(x1:(List (Int × Int)))(x2:(List (Int × Int))):Option Bool :=
cond ((x1.length:Int) != (x2.length:Int)) (
some false) (
(AE (gr k x1 x2) k 0).bind fun y18 =>
BN (fun y19 =>
some false) (fun y20 =>
some true) y18)
def A27:AQ:=⟨[.fz .u Db,.fz .u Db],[]⟩
def uO:List Ah:=[.tl Db,.tl Db]
def R27:List AP:=[⟨.b,[],[.tb]⟩]
def n27:An:=.sq (.nd) (.sq (.nd) (.sq (.sq (.nd) (.lp [0,1] [] ⟨[(5,.i .i64)],[]⟩ [.ti] [(1,⟨[(4,.lb false)],[]⟩),(2,⟨[],[]⟩)] [[],[]] (.sq (.nd) (.sq (.sq (.mk [] [0,0,3,7,0,0,48,112,255]) (.nd)) (.nd))))) (.nd)))
theorem e27 (k:Nat)(y:Tup uO):EX Tryz.f27 A27 uO [] R27 n27 [] k y=ud k y.1 y.2:=by kernel_rfl
noncomputable def C27 (k:Nat):Ao Tryz.prog:=CK 27 Tryz.func27 (e27 k)
noncomputable def jS (k:Nat)(x4:(List Cp))(x11:(List Cp))(z57:Int):Option (Int ⊕ (Unit ⊕ Unit)) :=
cond (decide (z57 < (x4.length:Int))) (
(((ix x4 z57).bind fun a58 =>
(ix x11 z57).bind fun a59 =>
(qU k a58.1 a58.2.1 a58.2.2.1 a58.2.2.2.1 a59.1 a59.2.1 a59.2.2.1 a59.2.2.2.1).bind fun y60 =>
cond (!y60) (
some true) (
(ix x4 z57).bind fun a61 =>
(ix x11 z57).bind fun a62 =>
(ud k a61.2.2.2.2 a62.2.2.2.2).bind fun y63 =>
some (!y63)):Option Bool)).bind fun y64 =>
cond y64 (
some (.inr (.inl ()))) (
some (.inl (IntKind.wrap .i64 (z57+1))))) (
some (.inr (.inr ())))
noncomputable def tu (k:Nat)(x1:Int)(x2:Int)(x3:Int)(x4:(List Cp))(x5:(List Int))(x6:Int)(x7:Int)(x8:Int)(x9:Int)(x10:Int)(x11:(List Cp))(x12:(List Int))(x13:Int)(x14:Int):Option Bool :=
((cond (x1 != x8) (
some true) (
cond (x2 != x9) (
some true) (
cond (x3 != x10) (
some true) (
cond (x6 != x13) (
some true) (
cond (x7 != x14) (
some true) (
(ue k x5 x12).bind fun y4 =>
cond (!y4) (
some true) (
some ((x4.length:Int) != (x11.length:Int)))))))):Option Bool)).bind fun y5 =>
cond y5 (
some false) (
(AE (jS k x4 x11) k 0).bind fun y65 =>
BN (fun y66 =>
some false) (fun y67 =>
some true) y65)
def A12:AQ:=⟨[.ag [.i .u32,.i .u32,.i .u32,.fz .u Cl,.fz .u Bm,.i .u32,.i .u32],.ag [.i .u32,.i .u32,.i .u32,.fz .u Cl,.fz .u Bm,.i .u32,.i .u32]],[]⟩
def uH:List Ah:=[.ti,.ti,.ti,.tl Cl,.tl Bm,.ti,.ti,.ti,.ti,.ti,.tl Cl,.tl Bm,.ti,.ti]
def R12:List AP:=[⟨.b,[],[.tb]⟩]
def n12:An:=.sq (.nd) (.sq (.jn [2,3] [2,3] [(0,⟨[(55,.b)],[]⟩)] [[.tb]] (.nd) (.nd)) (.sq (.sq (.nd) (.lp [2,3] [2,3] ⟨[(5,.i .i64)],[]⟩ [.ti] [(1,⟨[(4,.lb false)],[]⟩),(2,⟨[],[]⟩)] [[],[]] (.sq (.nd) (.sq (.jn [5] [] [(0,⟨[(92,.b)],[]⟩)] [[.tb]] (.mk [] [0,1,0,7,15,31,0,64,0,448,960,1984,4095,8191,16383,32767,65535,32767,262143,524287,1048575,32767,2129919,32767,14712831,31490047,65044479,134217727,268435455,536870911]) (.nd)) (.nd))))) (.nd)))
theorem e12 (k:Nat)(y:Tup uH):EX Tryz.f12 A12 uH [] R12 n12 [C26 k,tz k,C27 k] k y=tu k y.1 y.2.1 y.2.2.1 y.2.2.2.1 y.2.2.2.2.1 y.2.2.2.2.2.1 y.2.2.2.2.2.2.1 y.2.2.2.2.2.2.2.1 y.2.2.2.2.2.2.2.2.1 y.2.2.2.2.2.2.2.2.2.1 y.2.2.2.2.2.2.2.2.2.2.1 y.2.2.2.2.2.2.2.2.2.2.2.1 y.2.2.2.2.2.2.2.2.2.2.2.2.1 y.2.2.2.2.2.2.2.2.2.2.2.2.2:=by kernel_rfl
noncomputable def C12 (k:Nat):Ao Tryz.prog:=CK 12 Tryz.func12 (e12 k)
noncomputable def F4 (k:Nat)(x1:Int)(x2:Int)(x3:Int)(x4:(List (Int × Int × Int × (List (Int × Bool × ByteArray)) × Int)))(x5:(List Int)):Option Bool :=
(F8 k x1 x2 x3).bind fun y2 =>
(je k y2.1 y2.2.1 y2.2.2 x4 x5).bind fun y4 =>
(jm k).bind fun y5 =>
cond y5 (
(Vp k y2.1 y2.2.1 y2.2.2 y4).bind fun y6 =>
(ui k y2.1 y2.2.1 y2.2.2 y4).bind fun y7 =>
(tu k y6.1 y6.2.1 y6.2.2.1 y6.2.2.2.1 y6.2.2.2.2.1 y6.2.2.2.2.2.1 y6.2.2.2.2.2.2 y7.1 y7.2.1 y7.2.2.1 y7.2.2.2.1 y7.2.2.2.2.1 y7.2.2.2.2.2.1 y7.2.2.2.2.2.2).bind fun y8 =>
some y8) (
some false)
def A4:AQ:=⟨[.ag [.i .i64,.i .i64,.i .i64],.fz .u eR,.fz .u (.int .u32 .nil)],[]⟩
def h4:List Ah:=[.ti,.ti,.ti,.tl eR,.tl (.int .u32 .nil)]
def R4:List AP:=[⟨.b,[],[.tb]⟩]
def n4:An:=.sq (.nd) (.sq (.nd) (.sq (.nd) (.sq (.mk [] [0,1,3,3,15,3,3,127,255,511,1023]) (.nd))))
theorem e4 (k:Nat)(hm:Mo.m=false)(y:Tup h4):EX Tryz.f4 A4 h4 [] R4 n4 [C8 k,sV k,pC k hm,lj k hm,C14 k,C12 k] k y=F4 k y.1 y.2.1 y.2.2.1 y.2.2.2.1 y.2.2.2.2:=by kernel_rfl
noncomputable def lH (k:Nat)(a166:Cp)(y4:(List Ax))(z169:(Int × (List BV))):Option ((Int × (List BV)) ⊕ (Unit ⊕ (List BV))) :=
cond (decide (z169.1 < (a166.2.2.2.2.length:Int))) (
(ix a166.2.2.2.2 z169.1).bind fun a170 =>
((cond (decide (a170.1 < 0)) (
some true) (
cond (decide ((y4.length:Int)<=a170.1)) (
some true) (
cond (decide (a170.2 < 1)) (
some true) (
(ix y4 a170.1).bind fun a171 =>
some (decide ((a171.2.2.1.length:Int) < a170.2))))):Option Bool)).bind fun y172 =>
cond y172 (
some (.inr (.inl ()))) (
(ix y4 a170.1).bind fun a173 =>
(ix a173.2.2.1 (IntKind.wrap .i64 (a170.2 - 1))).bind fun a174 =>
Ai (decide ((z169.2.length+[(a174.1,a174.2.1,a174.2.2.1,a174.2.2.2)].length) * 32<=140737488355328)) <|
some (.inl ((IntKind.wrap .i64 (z169.1+1)),(z169.2 ++ [(a174.1,a174.2.1,a174.2.2.1,a174.2.2.2)]))))) (
some (.inr (.inr z169.2)))
noncomputable def mu (k:Nat)(y4:(List Ax))(z165:(Int × Int × Int × Int × (List Cp) × (List Int) × Int × Int)):Option ((Int × Int × Int × Int × (List Cp) × (List Int) × Int × Int) ⊕ ((Int × Int × Int × (List Cp) × (List Int) × Int × Int) ⊕ (Int × Int × Int × (List Cp) × (List Int) × Int × Int))) :=
cond (decide (z165.1 < (z165.2.2.2.2.1.length:Int))) (
(ix z165.2.2.2.2.1 z165.1).bind fun a166 =>
((cond (decide (a166.1<=z165.2.1)) (
some true) (
cond (decide (0 < z165.1)) (
(ix z165.2.2.2.2.1 (IntKind.wrap .i64 (z165.1 - 1))).bind fun a167 =>
cond (a166.2.1 != a167.1) (
some true) (
cond (z165.1 == 0) (
some (decide (z165.2.1 < a166.2.1))) (
some false))) (
cond (z165.1 == 0) (
some (decide (z165.2.1 < a166.2.1))) (
some false))):Option Bool)).bind fun y168 =>
cond y168 (
some (.inr (.inl (z165.2.1,z165.2.2.1,z165.2.2.2.1,z165.2.2.2.2.1,z165.2.2.2.2.2.1,z165.2.2.2.2.2.2.1,z165.2.2.2.2.2.2.2)))) (
(AE (lH k a166 y4) k (0,([]:List BV))).bind fun y175 =>
BN (fun y176 =>
some (.inr (.inl (z165.2.1,z165.2.2.1,z165.2.2.2.1,z165.2.2.2.2.1,z165.2.2.2.2.2.1,z165.2.2.2.2.2.2.1,z165.2.2.2.2.2.2.2)))) (fun y177 =>
(pW k y177).bind fun y178 =>
((cond (y178.2.2.2.2 != 0) (
some true) (
(qU k y178.1 y178.2.1 y178.2.2.1 y178.2.2.2.1 a166.1 a166.2.1 a166.2.2.1 a166.2.2.2.1).bind fun y179 =>
some (!y179)):Option Bool)).bind fun y180 =>
cond y180 (
some (.inr (.inl (z165.2.1,z165.2.2.1,z165.2.2.2.1,z165.2.2.2.2.1,z165.2.2.2.2.2.1,z165.2.2.2.2.2.2.1,z165.2.2.2.2.2.2.2)))) (
some (.inl ((IntKind.wrap .i64 (z165.1+1)),z165.2.1,z165.2.2.1,z165.2.2.2.1,z165.2.2.2.2.1,z165.2.2.2.2.2.1,z165.2.2.2.2.2.2.1,z165.2.2.2.2.2.2.2)))) y175)) (
some (.inr (.inr (z165.2.1,z165.2.2.1,z165.2.2.2.1,z165.2.2.2.2.1,z165.2.2.2.2.2.1,z165.2.2.2.2.2.2.1,z165.2.2.2.2.2.2.2))))
noncomputable def F5 (k:Nat)(x1:Int)(x2:Int)(x3:Int)(x4:(List (Int × Int × Int × (List (Int × Bool × ByteArray)) × Int)))(x5:(List Int)):Option Bool :=
(F8 k x1 x2 x3).bind fun y2 =>
(je k y2.1 y2.2.1 y2.2.2 x4 x5).bind fun y4 =>
(jl k y2.1 y2.2.1 y2.2.2 y4).bind fun y6 =>
(jm k).bind fun y9 =>
cond (!y9) (
some false) (
(AE (mu k y4) k (0,y6.1,y6.2.1,y6.2.2.1,y6.2.2.2.1,y6.2.2.2.2.1,y6.2.2.2.2.2.1,y6.2.2.2.2.2.2)).bind fun y181 =>
BN (fun y182 =>
some false) (fun y183 =>
cond (decide (y183.2.1<=y183.1)) (
cond (decide (y183.1<=y183.2.2.2.2.2.1)) (
cond (decide (y183.2.2.2.2.2.1 < y183.2.2.2.2.2.2)) (
some (decide ((y183.2.2.2.2.1.length:Int) < (y4.length:Int)))) (
some false)) (
some false)) (
some false)) y181)
def A5:AQ:=⟨[.ag [.i .i64,.i .i64,.i .i64],.fz .u eR,.fz .u (.int .u32 .nil)],[]⟩
def h5:List Ah:=[.ti,.ti,.ti,.tl eR,.tl (.int .u32 .nil)]
def R5:List AP:=[⟨.b,[],[.tb]⟩]
def n5:An:=.sq (.nd) (.sq (.nd) (.sq (.nd) (.sq (.fr [(2,402100)]) (.sq (.nd) (.sq (.sq (.nd) (.lp [7,8] [] ⟨[(9,.i .i64)],[(8,.bx 35 [.i .u32,.i .u32,.i .u32,.fz .u Cl,.fz .u Bm,.i .u32,.i .u32])]⟩ [.ti,.ti,.ti,.ti,.tl Cl,.tl Bm,.ti,.ti] [(1,⟨[(6,.lb false)],[(8,.bx 35 [.i .u32,.i .u32,.i .u32,.fz .u Cl,.fz .u Bm,.i .u32,.i .u32])]⟩),(2,⟨[],[(8,.bx 35 [.i .u32,.i .u32,.i .u32,.fz .u Cl,.fz .u Bm,.i .u32,.i .u32])]⟩)] [[.ti,.ti,.ti,.tl Cl,.tl Bm,.ti,.ti],[.ti,.ti,.ti,.tl Cl,.tl Bm,.ti,.ti]] (.sq (.nd) (.sq (.sq (.nd) (.sq (.jn [9,10] [8,10] [(0,⟨[(74,.b)],[]⟩)] [[.tb]] (.mk [] [0,1,3,0,8,31,63,127,255,511,1023,2047,4095,1023,9215,1023,33791,123903,254975,517119,1041407,2097151,4194303,8388607,16777215,33554431,67108863,134217727,268435455,536870911,1073741823,268435455,2415919103,8589934591,17179869183,34359738367]) (.nd)) (.sq (.nd) (.sq (.sq (.nd) (.lp [9,10] [8,10] ⟨[(11,.sl .n 302250),(12,.i .i64)],[(302250,.ar 54 DF)]⟩ [.ti,.tl DF] [(1,⟨[(6,.lb false)],[]⟩),(4,⟨[(11,.sl .n 302285)],[(302285,.ar 54 DF)]⟩)] [[],[.tl DF]] (.sq (.nd) (.sq (.sq (.nd) (.sq (.jn [11,12,13] [13,302250] [(0,⟨[(113,.b)],[]⟩)] [[.tb]] (.mk [] [0,1,3,7,15,31,15,79,255,511,1023,2047,4095,8191,16383,32767,65535,131071,65535,65535,589823,1900543,3997695,8191999,16580607,33554431,67108863]) (.nd)) (.mk [] [0,0,0,4,14,30,62,0,128,384,1022,2046,4094,8191,16383]))) (.nd))))) (.sq (.fr [(1,302285)]) (.jn [9] [8] [(0,⟨[(141,.b)],[]⟩)] [[.tb]] (.nd) (.nd))))))) (.nd))))) (.nd))))))
theorem e5 (k:Nat)(hm:Mo.m=false)(y:Tup h5):EX Tryz.f5 A5 h5 [] R5 n5 [C8 k,sV k,qO k hm,pC k hm,tD k,tz k] k y=F5 k y.1 y.2.1 y.2.2.1 y.2.2.2.1 y.2.2.2.2:=by kernel_rfl
noncomputable def F7 (k:Nat)(x1:Int)(x2:Int)(x3:Int)(x4:(List (Int × Int × Int × (List (Int × Bool × ByteArray)) × Int)))(x5:(List Int))(x6:Int):Option Bool :=
(F8 k x1 x2 x3).bind fun y2 =>
(je k y2.1 y2.2.1 y2.2.2 x4 x5).bind fun y4 =>
(cR k 20).bind fun y6 =>
(bQ k (IntKind.wrap .i64 (x6.tmod 100)) (y4.length:Int)).bind fun y8 =>
(ix y4 y8).bind fun a9 =>
((y4[y8.toNat]?).bind fun a10=>some (a10.1,30,a10.2.2.1,a10.2.2.2)).bind fun a11 =>
(ix (y4.set y8.toNat a11) y8).bind fun a20 =>
((y4.set y8.toNat a11)[y8.toNat]?).bind fun a21 =>
(ix (y4.set y8.toNat a11) y8).bind fun a22 =>
((y4.set y8.toNat a11)[y8.toNat]?).bind fun a23 =>
(ed k y2.1 y2.2.1 y2.2.2).bind fun y24 =>
Ai (Be (a21.2.2.1.length:Int) 0 (mn (a23.2.2.1.length:Int) (IntKind.wrap .i64 (y24 - 1)))) <|
Ai (decide (([(4,50,x6,y6)].length+(cut a21.2.2.1 0 (mn (a23.2.2.1.length:Int) (IntKind.wrap .i64 (y24 - 1)))).length) * 32<=140737488355328)) <|
(ix (y4.set y8.toNat a11) y8).bind fun a25 =>
(((y4.set y8.toNat a11)[y8.toNat]?).bind fun a26=>some (a26.1,a26.2.1,([(4,50,x6,y6)] ++ (cut a21.2.2.1 0 (mn (a23.2.2.1.length:Int) (IntKind.wrap .i64 (y24 - 1))))),a26.2.2.2)).bind fun a27 =>
(jl k y2.1 y2.2.1 y2.2.2 ((y4.set y8.toNat a11).set y8.toNat a27)).bind fun y29 =>
(jm k).bind fun y30 =>
cond y30 (
cond ((y29.2.2.2.1.length:Int) == 0) (
cond (y29.1 == 50) (
cond (y29.2.1 == 20) (
cond (y29.2.2.1 == x6) (
cond ((y29.2.2.2.2.1.length:Int) == 1) (
(ix y29.2.2.2.2.1 0).bind fun a31 =>
cond (a31 == y8) (
cond (y29.2.2.2.2.2.1 == 50) (
some (y29.2.2.2.2.2.2 == 51)) (
some false)) (
some false)) (
some false)) (
some false)) (
some false)) (
some false)) (
some false)) (
some false)
def A7:AQ:=⟨[.ag [.i .i64,.i .i64,.i .i64],.fz .u eR,.fz .u (.int .u32 .nil),.i .u32],[]⟩
def h7:List Ah:=[.ti,.ti,.ti,.tl eR,.tl (.int .u32 .nil),.ti]
def R7:List AP:=[⟨.b,[],[.tb]⟩]
def n7:An:=.sq (.nd) (.sq (.nd) (.sq (.nd) (.sq (.nd) (.sq (.nd) (.sq (.nd) (.sq (.mk [] [0,0,0,4,0,0,48,112,240,0,0,1536,3584,7680,15872,0,32768,98304,261632,524272,1048572,2097151,4194303,8388607]) (.sq (.fr [(2,401800)]) (.nd))))))))
theorem e7 (k:Nat)(hm:Mo.m=false)(y:Tup h7):EX Tryz.f7 A7 h7 [] R7 n7 [C8 k,sV k,rU k,ny k,ni k,qO k hm,pC k hm] k y=F7 k y.1 y.2.1 y.2.2.1 y.2.2.2.1 y.2.2.2.2.1 y.2.2.2.2.2:=by kernel_rfl
noncomputable def C7 (k:Nat)(hm:Mo.m=false):Ao Tryz.prog:=CK 7 Tryz.func7 (e7 k hm)
end Go.Proofs.YthoimblkpcikdaaGreatDoor.N

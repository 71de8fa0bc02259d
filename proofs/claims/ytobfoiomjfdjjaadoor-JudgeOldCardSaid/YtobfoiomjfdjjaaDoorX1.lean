/- What the functions compute, natively, and that they do. Printed by a program (wip/xg). -/
import Derived.Test.YtobfoiomjfdjjaaDoorMc4
import Derived.Test.YtobfoiomjfdjjaaDoorProg
import Derived.Test.YtobfoiomjfdjjaaDoorShelf
import Derived.Test.YtobfoiomjfdjjaaDoorBld
namespace Go.Proofs.YtobfoiomjfdjjaaDoor.N
open Go Go.RowKit Go.Proofs.YtobfoiomjfdjjaaDoor.Mc Go.Proofs
set_option maxRecDepth 100000
set_option maxHeartbeats 0
set_option linter.unusedVariables false
noncomputable abbrev D:=Ij Tryd.prog
theorem fc:Go.Proofs.YtobfoiomjfdjjaaDoor.Mc.Good Tryd.prog D:=Wl _
theorem mixed:Tryd.prog.follows .mixedOrders=true:=by kernel_rfl
def bl:List (Nat × Row):=[(31,(.str .nil)),(37,(.str (.bool (.str (.int .u32 .nil))))),(51,(.str (.bool (.str .nil)))),(57,(.str (.bool (.str (.int .u32 .nil))))),(100,(.int .i32 .nil)),(105,(.int .u8 .nil))]
def Dk:List ByteArray:=[(⟨#[97]⟩:ByteArray),(⟨#[98]⟩:ByteArray),(⟨#[99]⟩:ByteArray),(⟨#[97,98]⟩:ByteArray),(⟨#[107,49]⟩:ByteArray),(⟨#[107,50]⟩:ByteArray),(⟨#[107,51]⟩:ByteArray),(⟨#[195,169]⟩:ByteArray),(⟨#[195,169,97]⟩:ByteArray),(⟨#[240,159,152,128]⟩:ByteArray),(⟨#[42]⟩:ByteArray),(⟨#[122,122]⟩:ByteArray)]
abbrev AG:Row:=.str (.bool (.str (.int .u32 .nil)))
abbrev AD:Row:=.str (.bool (.str .nil))
abbrev AL:Row:=.str (.int .u32 (.int .u32 .nil))
abbrev Hc:Row:=.int .i64 .nil
abbrev Ac:Type:=List (ByteArray × Bool × ByteArray)
abbrev Ax:Type:=List (ByteArray × (ByteArray × Bool × ByteArray × Int))
abbrev Ba:Type:=List (ByteArray × Int × Int)
abbrev Bu:Type:=List (ByteArray × Bool × ByteArray × Int)
abbrev ee:Type:=(Bool × Int × Int × Int × Bool × Bool × Int × Ac × Int × Bool × Int × Int × Ax × Ba × Ac) ⊕ (Bool × Int × Int × Int × Bool × Bool × Int × Ac × Int × Bool × Int × Int × Ax × Ba × Ac) ⊕ (Bool × Int × Int × Int × Bool × Bool × Int × Ac × Int × Bool × Int × Ax × Ba × Ac) ⊕ (Bool × Int × Int × Int × Bool × Bool × Int × Ac × Int × Bool × Int × Int × Ax × Ba × Ac × Ba × Ac) ⊕ (Bool × Int × Int × Int × Bool × Bool × Int × Ac × Int × Bool × Int × Int × Int × Ax × Ba × Ac × Ba × Ac)
abbrev Po:Type:=Bool × Int × Int × Int × Bool × Bool × Int × Ac × Int × Bool × Int × Ax
abbrev ax:Type:=(Int × Int × Int × Bool × Bool × Int × Ac × Int × Bool × Int × Int × Ax × Ba × Ac) ⊕ (Int × Int × Int × Bool × Bool × Int × Ac × Int × Bool × Int × Int × Ax × Ba × Ac) ⊕ (Int × Int × Int × Bool × Bool × Int × Ac × Int × Bool × Int × Ax × Ba × Ac) ⊕ (Int × Int × Int × Bool × Bool × Int × Ac × Int × Bool × Int × Int × Ax × Ba × Ac × Ba × Ac) ⊕ (Int × Int × Int × Bool × Bool × Int × Ac × Int × Bool × Int × Int × Int × Ax × Ba × Ac × Ba × Ac)
abbrev LM:Type:=Bool × Int × Int × Int × Bool × Bool × Int × Ac × Int × Bool × Int × Int × Ax × Ba × Ac
abbrev KU:Type:=Int × Int × Int × Bool × Bool × Int × Ac × Int × Bool × Int
abbrev WA:Type:=Bool × Int × Int × Int × Bool × Bool × Int × Ac × Int × Bool × Int × Int × Int × Ax × Ba × Ba
abbrev Ht:Type:=ByteArray × Bool × ByteArray × Int
variable [Mo]
noncomputable abbrev EX (f:Func)(A:AZ)(h:List Al)(kp:List Nat)(R:List AY)(n:An)(Γ : List (Ar Tryd.prog))(k:Nat)(y:Tup h):Option (Dq (R.map (·.h))) :=
 exec (P:=Tryd.prog) D (lk bl) Γ k (RG f) n (Tu f A kp (Dz A (BO h y))) (Yw kp (Dz A (BO h y))) (Vz D (Tu f A kp (Dz A (BO h y))) f.results.toList (R.map (·.h)) R)
noncomputable def CK {k:Nat}(i:FuncId){f:Func}(hf:Tryd.prog.funcs[i]? = some f){A:AZ}{h:List Al}{kp:List Nat}{R:List AY}{n:An}{Γ : List (Ar Tryd.prog)}{F:Tup h->Option (Dq (R.map (·.h)))}(e:∀ y,EX f A h kp R n Γ k y=F y)(h1:(f.name == "runtime.NumGoroutine")=false:=by kernel_rfl)(h2:f.body.isSome=true:=by kernel_rfl)(h3:f.body=some (RG f):=by kernel_rfl):Ar Tryd.prog :=
 ⟨i,f,hf,h1,h2,A,h,kp,R,F,fun y _ hr=>ZO fc mixed (c:=RG f) hf h3 n y ((e y).trans hr)⟩
noncomputable def YR (k:Nat)(x1:Int)(x2:Int):Option Int :=
Bl (x2 != 0) <|
((cond (decide ((x1.tmod x2) < 0)) (
some (IntKind.wrap .i64 ((x1.tmod x2)+x2))) (
some (x1.tmod x2)):Option Int)).bind fun y1 =>
some y1
def A11:AZ:=⟨[.i .i64,.i .i64],[]⟩
def iI:List Al:=[.ti,.ti]
def R11:List AY:=[⟨.i .i64,[],[.ti]⟩]
def n11:An:=.sq (.nd) (.sq (.nd) (.jn [] [] [(0,⟨[(0,.i .i64)],[]⟩)] [[.ti]] (.nd) (.nd)))
theorem e11 (k:Nat)(y:Tup iI):EX Tryd.f11 A11 iI [] R11 n11 [] k y=YR k y.1 y.2:=by kernel_rfl
noncomputable def fD (k:Nat):Ar Tryd.prog:=CK 11 Tryd.func11 (e11 k)
noncomputable def F5 (k:Nat)(x1:Int)(x2:Int)(x3:Int):Option (Int × Int × Int) :=
(YR k x1 33).bind fun y1 =>
(YR k x2 4).bind fun y2 =>
(YR k x3 4).bind fun y3 =>
some ((IntKind.wrap .i64 (32+y1)),(IntKind.wrap .i64 (3+y2)),(IntKind.wrap .i64 (4+y3)))
def A5:AZ:=⟨[.ag [.i .i64,.i .i64,.i .i64]],[]⟩
def h5:List Al:=[.ti,.ti,.ti]
def R5:List AY:=[⟨.ag [.i .i64,.i .i64,.i .i64],[],[.ti,.ti,.ti]⟩]
def n5:An:=.sq (.nd) (.sq (.mk [] [0,1,3,7,0,16,55,119,0,256,887,1911,4095,8191]) (.nd))
theorem e5 (k:Nat)(y:Tup h5):EX Tryd.f5 A5 h5 [] R5 n5 [fD k] k y=F5 k y.1 y.2.1 y.2.2:=by kernel_rfl
noncomputable def C5 (k:Nat):Ar Tryd.prog:=CK 5 Tryd.func5 (e5 k)
noncomputable def YO (k:Nat)(x1:Int)(x2:Int)(x3:Int):Option Bool :=
cond (decide (32<=x1)) (
cond (decide (x1<=128)) (
cond (decide (3<=x2)) (
cond (decide (x2<=10)) (
cond (decide (4<=x3)) (
some (decide (x3<=12))) (
some false)) (
some false)) (
some false)) (
some false)) (
some false)
def A15:AZ:=⟨[.ag [.i .i64,.i .i64,.i .i64]],[]⟩
def hC:List Al:=[.ti,.ti,.ti]
def R15:List AY:=[⟨.b,[],[.tb]⟩]
def n15:An:=.nd
theorem e15 (k:Nat)(y:Tup hC):EX Tryd.f15 A15 hC [] R15 n15 [] k y=YO k y.1 y.2.1 y.2.2:=by kernel_rfl
noncomputable def dU (k:Nat):Ar Tryd.prog:=CK 15 Tryd.func15 (e15 k)
noncomputable def fm (k:Nat):Option Ax :=
some ([]:List (ByteArray × Ht))
def A16:AZ:=⟨[],[]⟩
def iB:List Al:=[]
def R16:List AY:=[⟨.pt 500000 0,[(500000,.bx 59 [.mp 500001]),(500001,.mp ⟨.s,true,AG⟩)],[.tm ⟨.s,true,AG⟩]⟩]
def n16:An:=.nd
theorem e16 (k:Nat)(y:Tup iB):EX Tryd.f16 A16 iB [] R16 n16 [] k y=fm k:=by kernel_rfl
noncomputable def C16 (k:Nat):Ar Tryd.prog:=CK 16 Tryd.func16 (e16 k)
noncomputable def F6 (k:Nat)(x1:Int)(x2:Int)(x3:Int):Option (Unit ⊕ (Int × Int × Int × Bool × Bool × Int × Ac × Int × Bool × Int × Ax)) :=
(YO k x1 x2 x3).bind fun y3 =>
cond (!y3) (
some (.inl ())) (
(fm k).bind fun y4 =>
some (.inr (x1,x2,x3,false,false,0,([]:List (ByteArray × Bool × ByteArray)),0,false,0,y4)))
def A6:AZ:=⟨[.ag [.i .i64,.i .i64,.i .i64]],[]⟩
def h6:List Al:=[.ti,.ti,.ti]
def R6:List AY:=[⟨.c (.pointer none),[],[]⟩,⟨.pt 500000 0,[(500000,.bx 53 [.i .i64,.i .i64,.i .i64,.b,.pt 500001 0,.b,.mp 500002,.i .i64,.fz .u AD,.i .u32,.b,.i .i64]),(500001,.bx 59 [.mp 500003]),(500002,.bx 3000000 []),(500003,.mp ⟨.s,true,AG⟩)],[.ti,.ti,.ti,.tb,.tb,.ti,.tl AD,.ti,.tb,.ti,.tm ⟨.s,true,AG⟩]⟩]
def n6:An:=.sq (.nd) (.sq (.nd) (.sq (.mk [] [0,0,0,7,15,31]) (.nd)))
theorem e6 (k:Nat)(y:Tup h6):EX Tryd.f6 A6 h6 [] R6 n6 [dU k,C16 k] k y=F6 k y.1 y.2.1 y.2.2:=by kernel_rfl
noncomputable def C6 (k:Nat):Ar Tryd.prog:=CK 6 Tryd.func6 (e6 k)
noncomputable def gw (k:Nat)(x1:Int)(x2:Int)(x3:Int)(x4:Bool)(x5:Bool)(x6:Int)(x7:Ac)(x8:Int)(x9:Bool)(x10:Int)(x11:Ax):Option KU :=
some (x1,x2,x3,x4,false,0,x7,x8,x9,x10)
def A20:AZ:=⟨[.pt 1000000 0],[(1000000,.bx 53 [.i .i64,.i .i64,.i .i64,.b,.pt 1000001 0,.b,.mp 1000002,.i .i64,.fz .u AD,.i .u32,.b,.i .i64]),(1000001,.bx 59 [.mp 1000003]),(1000002,.bx 3000000 []),(1000003,.mp ⟨.s,true,AG⟩)]⟩
def fh:List Al:=[.ti,.ti,.ti,.tb,.tb,.ti,.tl AD,.ti,.tb,.ti,.tm ⟨.s,true,AG⟩]
def R20:List AY:=[⟨.tp [],[(1000000,.bx 53 [.i .i64,.i .i64,.i .i64,.b,.pt 1000001 0,.b,.mp 500000,.i .i64,.fz .u AD,.i .u32,.b,.i .i64]),(500000,.bx 3000000 [])],[.ti,.ti,.ti,.tb,.tb,.ti,.tl AD,.ti,.tb,.ti]⟩]
def n20:An:=.nd
theorem e20 (k:Nat)(y:Tup fh):EX Tryd.f20 A20 fh [1000001,1000002,1000003] R20 n20 [] k y=gw k y.1 y.2.1 y.2.2.1 y.2.2.2.1 y.2.2.2.2.1 y.2.2.2.2.2.1 y.2.2.2.2.2.2.1 y.2.2.2.2.2.2.2.1 y.2.2.2.2.2.2.2.2.1 y.2.2.2.2.2.2.2.2.2.1 y.2.2.2.2.2.2.2.2.2.2:=by kernel_rfl
noncomputable def C20 (k:Nat):Ar Tryd.prog:=CK 20 Tryd.func20 (e20 k)
noncomputable def ek (k:Nat)(x1:(List ByteArray)):Option (List ByteArray) :=
Sy x1.isEmpty (
some ([]:List ByteArray)) (
Bl (decide ((([]:List ByteArray).length+x1.length) * 16<=140737488355328)) <|
some (([]:List ByteArray) ++ x1))
def A40:AZ:=⟨[.fz .u (.str .nil)],[]⟩
def iQ:List Al:=[.tl (.str .nil)]
def R40:List AY:=[⟨.sl .u 500000,[(500000,.ar 9 (.str .nil))],[.tl (.str .nil)]⟩]
def n40:An:=.nd
theorem e40 (k:Nat)(y:Tup iQ):EX Tryd.f40 A40 iQ [] R40 n40 [] k y=ek k y:=by kernel_rfl
noncomputable def C40 (k:Nat):Ar Tryd.prog:=CK 40 Tryd.func40 (e40 k)
noncomputable def Ru (k:Nat)(z3:(ByteArray × Nat × (List Int))):Option ((ByteArray × Nat × (List Int)) ⊕ (ByteArray × Nat × (List Int))) :=
cond (decide (z3.2.1 < z3.1.size)) (
Bl (decide ((z3.2.2.length+[((Utf8.decode z3.1 z3.2.1).1:Int)].length) * 4<=140737488355328)) <|
some (.inl (z3.1,(z3.2.1+(Utf8.decode z3.1 z3.2.1).2),(z3.2.2 ++ [((Utf8.decode z3.1 z3.2.1).1:Int)])))) (
some (.inr (z3.1,z3.2.1,z3.2.2)))
noncomputable def eE (k:Nat)(x1:ByteArray):Option (List Int) :=
(AX (Ru k) k (x1,0,([]:List Int))).bind fun y4 =>
some y4.2.2
def A56:AZ:=⟨[.s],[]⟩
def hN:List Al:=[.ts]
def R56:List AY:=[⟨.sl .u 500000,[(500000,.ar 21 (.int .i32 .nil))],[.tl (.int .i32 .nil)]⟩]
def n56:An:=.sq (.nd) (.sq (.nd) (.sq (.sq (.nd) (.lp [7] [] ⟨[(3,.sl .n 300400)],[(7,.si),(300400,.ar 21 (.int .i32 .nil))]⟩ [.ts,.tn,.tl (.int .i32 .nil)] [(2,⟨[(3,.sl .n 300425)],[(7,.si),(300425,.ar 21 (.int .i32 .nil))]⟩)] [[.ts,.tn,.tl (.int .i32 .nil)]] (.nd))) (.nd)))
theorem e56 (k:Nat)(y:Tup hN):EX Tryd.f56 A56 hN [] R56 n56 [] k y=eE k y:=by kernel_rfl
noncomputable def C56 (k:Nat):Ar Tryd.prog:=CK 56 Tryd.func56 (e56 k)
noncomputable def eZ (k:Nat)(x1:Int):Option Bool :=
some (x1 != x1)
def A95:AZ:=⟨[.i .i32],[]⟩
def hZ:List Al:=[.ti]
def R95:List AY:=[⟨.b,[],[.tb]⟩]
def n95:An:=.nd
theorem e95 (k:Nat)(y:Tup hZ):EX Tryd.f95 A95 hZ [] R95 n95 [] k y=eZ k y:=by kernel_rfl
noncomputable def C95 (k:Nat):Ar Tryd.prog:=CK 95 Tryd.func95 (e95 k)
noncomputable def cB (k:Nat)(x1:Int)(x2:Int):Option Int :=
(eZ k x1).bind fun y2 =>
(eZ k x2).bind fun y4 =>
cond y2 (
cond y4 (
some 0) (
some (-1))) (
cond y4 (
some 1) (
cond (decide (x1 < x2)) (
some (-1)) (
cond (decide (x2 < x1)) (
some 1) (
some 0))))
def A84:AZ:=⟨[.i .i32,.i .i32],[]⟩
def iD:List Al:=[.ti,.ti]
def R84:List AY:=[⟨.i .i64,[],[.ti]⟩]
def n84:An:=.nd
theorem e84 (k:Nat)(y:Tup iD):EX Tryd.f84 A84 iD [] R84 n84 [C95 k] k y=cB k y.1 y.2:=by kernel_rfl
noncomputable def iG (k:Nat):Ar Tryd.prog:=CK 84 Tryd.func84 (e84 k)
noncomputable def dL (k:Nat)(x1:(List Int))(x2:(List Int))(z27:Int):Option (Int ⊕ (Int ⊕ Unit)) :=
cond (decide (z27 < (x1.length:Int))) (
(ix x1 z27).bind fun a28 =>
cond (decide ((x2.length:Int)<=z27)) (
some (.inr (.inl 1))) (
(ix x2 z27).bind fun a29 =>
(x2[z27.toNat]?).bind fun a30 =>
(cB k a28 a30).bind fun y31 =>
cond (y31 != 0) (
some (.inr (.inl y31))) (
some (.inl (IntKind.wrap .i64 (z27+1)))))) (
some (.inr (.inr ())))
noncomputable def F57 (k:Nat)(x1:(List Int))(x2:(List Int)):Option Int :=
(AX (dL k x1 x2) k 0).bind fun y32 =>
Aq (fun y33 =>
some y33) (fun y34 =>
cond (decide ((x1.length:Int) < (x2.length:Int))) (
some (-1)) (
some 0)) y32
def A57:AZ:=⟨[.fz .u (.int .i32 .nil),.sl .u 1000000],[(1000000,.ar 21 (.int .i32 .nil))]⟩
def gZ:List Al:=[.tl (.int .i32 .nil),.tl (.int .i32 .nil)]
def R57:List AY:=[⟨.i .i64,[],[.ti]⟩]
def n57:An:=.sq (.nd) (.sq (.sq (.nd) (.lp [0,1,9,10] [] ⟨[(11,.i .i64)],[]⟩ [.ti] [(1,⟨[(4,.i .i64)],[]⟩),(2,⟨[],[]⟩)] [[.ti],[]] (.nd))) (.nd))
theorem e57 (k:Nat)(y:Tup gZ):EX Tryd.f57 A57 gZ [1000000] R57 n57 [iG k] k y=F57 k y.1 y.2:=by kernel_rfl
noncomputable def C57 (k:Nat):Ar Tryd.prog:=CK 57 Tryd.func57 (e57 k)
noncomputable def NC (k:Nat)(x1:(List Int))(x2:(List Int))(z22:Int):Option (Int ⊕ (Int ⊕ Unit)) :=
cond (decide (z22 < (x1.length:Int))) (
(ix x1 z22).bind fun a23 =>
cond (decide ((x2.length:Int)<=z22)) (
some (.inr (.inl 1))) (
(ix x2 z22).bind fun a24 =>
(cB k a23 a24).bind fun y25 =>
cond (y25 != 0) (
some (.inr (.inl y25))) (
some (.inl (IntKind.wrap .i64 (z22+1)))))) (
some (.inr (.inr ())))
noncomputable def SC (k:Nat)(x1:(List Int))(x2:(List Int)):Option Int :=
(AX (NC k x1 x2) k 0).bind fun y26 =>
Aq (fun y27 =>
some y27) (fun y28 =>
cond (decide ((x1.length:Int) < (x2.length:Int))) (
some (-1)) (
some 0)) y26
def cc:AZ:=⟨[.fz .u (.int .i32 .nil),.fz .u (.int .i32 .nil)],[]⟩
def YX:List Al:=[.tl (.int .i32 .nil),.tl (.int .i32 .nil)]
def db:List AY:=[⟨.i .i64,[],[.ti]⟩]
def dq:An:=.sq (.nd) (.sq (.sq (.nd) (.lp [0,1,9,10] [] ⟨[(11,.i .i64)],[]⟩ [.ti] [(1,⟨[(4,.i .i64)],[]⟩),(2,⟨[],[]⟩)] [[.ti],[]] (.nd))) (.nd))
theorem cb (k:Nat)(y:Tup YX):EX Tryd.f57 cc YX [] db dq [iG k] k y=SC k y.1 y.2:=by kernel_rfl
noncomputable def dp (k:Nat):Ar Tryd.prog:=CK 57 Tryd.func57 (cb k)
noncomputable def Zt (k:Nat)(x1:ByteArray)(x2:ByteArray):Option Int :=
(eE k x1).bind fun y3 =>
(eE k x2).bind fun y4 =>
(SC k y3 y4).bind fun y5 =>
some y5
def A43:AZ:=⟨[.s,.s],[]⟩
def iP:List Al:=[.ts,.ts]
def R43:List AY:=[⟨.i .i64,[],[.ti]⟩]
def n43:An:=.sq (.nd) (.sq (.nd) (.sq (.fr [(2,400800),(2,401000)]) (.nd)))
theorem e43 (k:Nat)(y:Tup iP):EX Tryd.f43 A43 iP [] R43 n43 [C56 k,dp k] k y=Zt k y.1 y.2:=by kernel_rfl
noncomputable def fk (k:Nat):Ar Tryd.prog:=CK 43 Tryd.func43 (e43 k)
noncomputable def fT (k:Nat)(x1:ByteArray)(x2:ByteArray):Option Int :=
some (Go.Lib.compareBytes x1.data.toList x2.data.toList)
def A44:AZ:=⟨[.s,.s],[]⟩
def h44:List Al:=[.ts,.ts]
def R44:List AY:=[⟨.i .i64,[],[.ti]⟩]
noncomputable def C44 (k:Nat):Ar Tryd.prog:=⟨44,Tryd.f44,Tryd.func44,by kernel_rfl,by kernel_rfl,A44,h44,[],R44,fun y=>fT k y.1 y.2,fun y r h=>by
 have h2:some (Go.Lib.compareBytes y.1.data.toList y.2.data.toList)=some r:=h
 cases h2
 exact LL.iU (vs:=[.string y.1,.string y.2]) rfl (fun _ _ _=>.t _ _ (.sc _ rfl)) fun w _=>(Tryd.strings_Compare y.1 y.2 w).mono fun e w2 g=>⟨g.1,by rw [g.2]; exact Below.refl _ _,fun _=>by rw [g.2]; exact Nat.le_refl _⟩⟩
noncomputable def ZH (k:Nat)(x1:ByteArray)(x2:ByteArray):Option Int :=
(Zt k x1 x2).bind fun y3 =>
cond (y3 != 0) (
some y3) (
(fT k x1 x2).bind fun y4 =>
some y4)
def A42:AZ:=⟨[.s,.s],[]⟩
def fu:List Al:=[.ts,.ts]
def R42:List AY:=[⟨.i .i64,[],[.ti]⟩]
def n42:An:=.nd
theorem e42 (k:Nat)(y:Tup fu):EX Tryd.f42 A42 fu [] R42 n42 [fk k,C44 k] k y=ZH k y.1 y.2:=by kernel_rfl
noncomputable def C42 (k:Nat):Ar Tryd.prog:=CK 42 Tryd.func42 (e42 k)
noncomputable def ea (k:Nat)(x1:(List ByteArray)):Option (List ByteArray) :=
Kl (ZH k) x1
def A41:AZ:=⟨[.sl .u 1000000,.c (.func (.func 42) #[] #[])],[(1000000,.ar 9 (.str .nil))]⟩
def h41:List Al:=[.tl (.str .nil)]
def R41:List AY:=[⟨.tp [],[(1000000,.ar 9 (.str .nil))],[.tl (.str .nil)]⟩]
noncomputable def C41 (k:Nat):Ar Tryd.prog:=⟨41,Tryd.f41,Tryd.func41,by kernel_rfl,by kernel_rfl,A41,h41,[],R41,fun y=>ea k y,fun y r h=>by
 have h2:Kl (ZH k) y=some r:=h
 exact LL.UB (ρ:=Tryd.laysSlF6_f41_ren) Tryd.laysSlF6_f41 { Tryd.laysSlF6_f41 with } (enters Tryd.func42 (by kernel_rfl) (by kernel_rfl)) (fun a b n g=>@Ar.ok ⟨true⟩ _ (@C42 ⟨true⟩ k) (a,b) n g) 9 (by decide) h2⟩
noncomputable def Kv (k:Nat)(z156:(Int × (List ByteArray)))(z161:(Int × Int × (List ByteArray))):Option ((Int × Int × (List ByteArray)) ⊕ (Int × (List ByteArray))) :=
cond (decide (z161.2.1 < (((((z156.2.length:Int).toNat) - z156.1.toNat):Nat):Int))) (
((Bl (decide (0<=z161.2.1/\z161.2.1 < (((((z156.2.length:Int).toNat) - z156.1.toNat):Nat):Int))) <|
(z161.2.2[(z156.1.toNat+z161.2.1.toNat)]?).bind fun a162 =>
Bl (decide (0<=(IntKind.wrap .i64 (z161.2.1 - 1))/\(IntKind.wrap .i64 (z161.2.1 - 1)) < (((((z156.2.length:Int).toNat) - z156.1.toNat):Nat):Int))) <|
(z161.2.2[(z156.1.toNat+((IntKind.wrap .i64 (z161.2.1 - 1)).toNat))]?).bind fun a163 =>
cond (!(a162.toList == a163.toList)) (
Bl (decide (0<=z161.2.1/\z161.2.1 < (((((z156.2.length:Int).toNat) - z156.1.toNat):Nat):Int))) <|
(z161.2.2[(z156.1.toNat+z161.2.1.toNat)]?).bind fun a164 =>
(ix z161.2.2 z161.1).bind fun a165 =>
((z161.2.2[z161.1.toNat]?).bind fun a166=>some a164).bind fun a167 =>
some ((IntKind.wrap .i64 (z161.1+1)),(z161.2.2.set z161.1.toNat a167))) (
some (z161.1,z161.2.2)):Option (Int × (List ByteArray)))).bind fun y168 =>
some (.inl (y168.1,(IntKind.wrap .i64 (z161.2.1+1)),y168.2))) (
some (.inr (z161.1,z161.2.2)))
noncomputable def LC (k:Nat)(z156:(Int × (List ByteArray))):Option ((Int × (List ByteArray)) ⊕ ((Nat × Nat × (List ByteArray)) ⊕ (List ByteArray))) :=
cond (decide (z156.1 < (z156.2.length:Int))) (
(ix z156.2 z156.1).bind fun a157 =>
(z156.2[z156.1.toNat]?).bind fun a158 =>
(ix z156.2 (IntKind.wrap .i64 (z156.1 - 1))).bind fun a159 =>
(z156.2[(IntKind.wrap .i64 (z156.1 - 1)).toNat]?).bind fun a160 =>
cond (a158.toList == a160.toList) (
Bl (Dj (z156.2.length:Int) z156.1 (z156.2.length:Int)) <|
(AX (Kv k z156) k (z156.1,1,z156.2)).bind fun y169 =>
Bl (Dj (y169.2.length:Int) y169.1 (y169.2.length:Int)) <|
Bl (Dj ((y169.2.take y169.1.toNat ++ List.replicate (((y169.2.length:Int).toNat) - y169.1.toNat) ByteArray.empty ++ y169.2.drop (y169.1.toNat+(((y169.2.length:Int).toNat) - y169.1.toNat))).length:Int) 0 y169.1) <|
some (.inr (.inl (0,(y169.1.toNat - 0),(y169.2.take y169.1.toNat ++ List.replicate (((y169.2.length:Int).toNat) - y169.1.toNat) ByteArray.empty ++ y169.2.drop (y169.1.toNat+(((y169.2.length:Int).toNat) - y169.1.toNat))))))) (
some (.inl ((IntKind.wrap .i64 (z156.1+1)),z156.2)))) (
some (.inr (.inr z156.2)))
noncomputable def eS (k:Nat)(x1:(List ByteArray)):Option (List ByteArray) :=
cond (decide ((x1.length:Int) < 2)) (
some x1) (
(AX (LC k) k (1,x1)).bind fun y170 =>
Aq (fun y171 =>
some ((y171.2.2.drop y171.1).take y171.2.1)) (fun y172 =>
some y172) y170)
def A45:AZ:=⟨[.sl .u 1000000],[(1000000,.ar 9 (.str .nil))]⟩
def gQ:List Al:=[.tl (.str .nil)]
def R45:List AY:=[⟨.fz .u (.str .nil),[(1000000,.gone)],[.tl (.str .nil)]⟩]
def n45:An:=.sq (.nd) (.sq (.nd) (.sq (.sq (.nd) (.lp [0] [] ⟨[(3,.i .i64)],[(1000000,.ar 9 (.str .nil))]⟩ [.ti,.tl (.str .nil)] [(1,⟨[(2,.sw 1000000)],[(1000000,.ar 9 (.str .nil))]⟩),(2,⟨[],[(1000000,.ar 9 (.str .nil))]⟩)] [[.tn,.tn,.tl (.str .nil)],[.tl (.str .nil)]] (.sq (.nd) (.sq (.sq (.mk [] [0,0,3,7,0,0,32,112,240,511]) (.sq (.sq (.nd) (.sq (.sq (.nd) (.lp [4] [] ⟨[(3,.i .i64),(5,.i .i64)],[(1000000,.ar 9 (.str .nil))]⟩ [.ti,.ti,.tl (.str .nil)] [(4,⟨[(3,.i .i64)],[(1000000,.ar 9 (.str .nil))]⟩)] [[.ti,.tl (.str .nil)]] (.sq (.nd) (.jn [5] [] [(0,⟨[(3,.i .i64)],[(1000000,.ar 9 (.str .nil))]⟩)] [[.ti,.tl (.str .nil)]] (.sq (.mk [] [0,0,3,7,0,0,32,112,240,511]) (.nd)) (.nd))))) (.nd))) (.nd))) (.nd))))) (.nd)))
theorem e45 (k:Nat)(y:Tup gQ):EX Tryd.f45 A45 gQ [] R45 n45 [] k y=eS k y:=by kernel_rfl
noncomputable def C45 (k:Nat):Ar Tryd.prog:=CK 45 Tryd.func45 (e45 k)
noncomputable def Yi (k:Nat)(x1:(List ByteArray)):Option (List ByteArray) :=
(ek k x1).bind fun y2 =>
(ea k y2).bind fun y4 =>
(eS k y4).bind fun y5 =>
some y5
def A26:AZ:=⟨[.fz .u (.str .nil)],[]⟩
def gM:List Al:=[.tl (.str .nil)]
def R26:List AY:=[⟨.fz .u (.str .nil),[],[.tl (.str .nil)]⟩]
def n26:An:=.nd
theorem e26 (k:Nat)(y:Tup gM):EX Tryd.f26 A26 gM [] R26 n26 [C40 k,C41 k,C45 k] k y=Yi k y:=by kernel_rfl
noncomputable def gj (k:Nat):Ar Tryd.prog:=CK 26 Tryd.func26 (e26 k)
noncomputable def Yp (k:Nat){R:Type}(z11:((Ax × Ax) × (List ByteArray)))(Kin:((Ax × Ax) × (List ByteArray))->Option R)(Kout:(Ax × (List ByteArray))->Option R):Option R :=
cond z11.1.2.isEmpty (
Kout (z11.1.1,z11.2)) (
VW z11.1.2 fun j12=>fun a13 =>
Bl (decide ((z11.2.length+[a13.1].length) * 16<=140737488355328)) <|
Kin ((z11.1.1,(List.eraseIdx z11.1.2 j12)),(z11.2 ++ [a13.1])))
noncomputable def aB (k:Nat)(x1:Ax):Option ((List ByteArray) × Ax) :=
Lt (Yp k) k ((x1,x1),([]:List ByteArray)) fun y14 =>
(Yi k y14.2).bind fun y15 =>
some (y15,y14.1)
def A19:AZ:=⟨[.pt 1000000 0],[(1000000,.bx 59 [.mp 1000001]),(1000001,.mp ⟨.s,true,AG⟩)]⟩
def gB:List Al:=[.tm ⟨.s,true,AG⟩]
def R19:List AY:=[⟨.fz .u (.str .nil),[(1000000,.bx 59 [.mp 1000001]),(1000001,.mp ⟨.s,true,AG⟩)],[.tl (.str .nil),.tm ⟨.s,true,AG⟩]⟩]
def n19:An:=.sq (.nd) (.sq (.nd) (.sq (.nd) (.sq (.sq (.nd) (.lc [11] [11,1000000] ⟨[(3,.sl .n 300800)],[(1000001,.mq ⟨.s,true,AG⟩ 11),(300800,.ar 9 (.str .nil))]⟩ [.tq ⟨.s,true,AG⟩,.tl (.str .nil)] [(2,⟨[(3,.sl .n 300825)],[(1000001,.mp ⟨.s,true,AG⟩),(300825,.ar 9 (.str .nil))]⟩)] [[.tm ⟨.s,true,AG⟩,.tl (.str .nil)]] (.nd))) (.sq (.fr [(1,300825)]) (.nd)))))
theorem e19 (k:Nat)(y:Tup gB):EX Tryd.f19 A19 gB [] R19 n19 [gj k] k y=aB k y:=by kernel_rfl
noncomputable def fB (k:Nat):Ar Tryd.prog:=CK 19 Tryd.func19 (e19 k)
noncomputable def Ze (k:Nat)(x1:(List ByteArray))(x2:Ax)(z13:(Int × Bu)):Option ((Int × Bu) ⊕ Bu) :=
cond (decide (z13.1 < (x1.length:Int))) (
(ix x1 z13.1).bind fun a14 =>
(some ((BQ Lk x2 a14).getD (ByteArray.empty,false,ByteArray.empty,0),(BQ Lk x2 a14).isSome)).bind fun a15 =>
Bl (decide ((z13.2.length+[(a14,a15.1.2.1,a15.1.2.2.1,a15.1.2.2.2)].length) * 48<=140737488355328)) <|
some (.inl ((IntKind.wrap .i64 (z13.1+1)),(z13.2 ++ [(a14,a15.1.2.1,a15.1.2.2.1,a15.1.2.2.2)])))) (
some (.inr z13.2))
noncomputable def Xx (k:Nat)(x1:(List ByteArray))(x2:Ax):Option Bu :=
(AX (Ze k x1 x2) k (0,([]:List Ht))).bind fun y16 =>
some y16
def A18:AZ:=⟨[.pt 1000000 0,.fz .u (.str .nil)],[(1000000,.bx 59 [.mp 1000001]),(1000001,.mp ⟨.s,true,AG⟩)]⟩
def fi:List Al:=[.tl (.str .nil),.tm ⟨.s,true,AG⟩]
def R18:List AY:=[⟨.sl .u 500000,[(500000,.ar 41 AG)],[.tl AG]⟩]
def n18:An:=.sq (.nd) (.sq (.nd) (.sq (.nd) (.sq (.sq (.nd) (.lp [0,11,12] [] ⟨[(5,.sl .n 300800),(13,.i .i64)],[(300800,.ar 41 AG)]⟩ [.ti,.tl AG] [(2,⟨[(5,.sl .n 300825)],[(300825,.ar 41 AG)]⟩)] [[.tl AG]] (.nd))) (.nd))))
theorem e18 (k:Nat)(y:Tup fi):EX Tryd.f18 A18 fi [1000000,1000001] R18 n18 [] k y=Xx k y.1 y.2:=by kernel_rfl
noncomputable def ZW (k:Nat):Ar Tryd.prog:=CK 18 Tryd.func18 (e18 k)
noncomputable def bG (k:Nat)(x1:Int)(x2:Int)(x3:Int)(x4:Bool)(x5:Bool)(x6:Int)(x7:Ac)(x8:Int)(x9:Bool)(x10:Int)(x11:Ax):Option (Ax × Bu) :=
(aB k x11).bind fun y1 =>
(Xx k y1.1 y1.2).bind fun y2 =>
some (y1.2,y2)
def A14:AZ:=⟨[.pt 1000000 0],[(1000000,.bx 53 [.i .i64,.i .i64,.i .i64,.b,.pt 1000001 0,.b,.mp 1000002,.i .i64,.fz .u AD,.i .u32,.b,.i .i64]),(1000001,.bx 59 [.mp 1000003]),(1000002,.bx 3000000 []),(1000003,.mp ⟨.s,true,AG⟩)]⟩
def fv:List Al:=[.ti,.ti,.ti,.tb,.tb,.ti,.tl AD,.ti,.tb,.ti,.tm ⟨.s,true,AG⟩]
def R14:List AY:=[⟨.sl .u 500000,[(1000001,.bx 59 [.mp 1000003]),(1000003,.mp ⟨.s,true,AG⟩),(500000,.ar 41 AG)],[.tm ⟨.s,true,AG⟩,.tl AG]⟩]
def n14:An:=.sq (.nd) (.sq (.nd) (.sq (.mk [] [0,1,3,7,0,16,48,112,240,511,1023]) (.nd)))
theorem e14 (k:Nat)(y:Tup fv):EX Tryd.f14 A14 fv [1000000,1000002] R14 n14 [fB k,ZW k] k y=bG k y.1 y.2.1 y.2.2.1 y.2.2.2.1 y.2.2.2.2.1 y.2.2.2.2.2.1 y.2.2.2.2.2.2.1 y.2.2.2.2.2.2.2.1 y.2.2.2.2.2.2.2.2.1 y.2.2.2.2.2.2.2.2.2.1 y.2.2.2.2.2.2.2.2.2.2:=by kernel_rfl
noncomputable def gG (k:Nat):Ar Tryd.prog:=CK 14 Tryd.func14 (e14 k)
noncomputable def fw (k:Nat)(x1:Int)(x2:Int)(x3:Int):Option Int :=
(YO k x1 x2 x3).bind fun y3 =>
cond (!y3) (
some 0) (
some (IntKind.wrap .i64 (x2 - 1)))
def A67:AZ:=⟨[.ag [.i .i64,.i .i64,.i .i64]],[]⟩
def gm:List Al:=[.ti,.ti,.ti]
def R67:List AY:=[⟨.i .i64,[],[.ti]⟩]
def n67:An:=.nd
theorem e67 (k:Nat)(y:Tup gm):EX Tryd.f67 A67 gm [] R67 n67 [dU k] k y=fw k y.1 y.2.1 y.2.2:=by kernel_rfl
noncomputable def C67 (k:Nat):Ar Tryd.prog:=CK 67 Tryd.func67 (e67 k)
noncomputable def eV (k:Nat)(x1:Int)(x2:Int)(x3:Int):Option Int :=
(YO k x1 x2 x3).bind fun y3 =>
cond (!y3) (
some 0) (
(fw k x1 x2 x3).bind fun y4 =>
some (IntKind.wrap .i64 ((IntKind.wrap .i64 (x3 - 2)) * y4)))
def A50:AZ:=⟨[.ag [.i .i64,.i .i64,.i .i64]],[]⟩
def gq:List Al:=[.ti,.ti,.ti]
def R50:List AY:=[⟨.i .i64,[],[.ti]⟩]
def n50:An:=.sq (.nd) (.sq (.nd) (.sq (.mk [] [0,1,3,0,8,31,63]) (.nd)))
theorem e50 (k:Nat)(y:Tup gq):EX Tryd.f50 A50 gq [] R50 n50 [dU k,C67 k] k y=eV k y.1 y.2.1 y.2.2:=by kernel_rfl
noncomputable def ez (k:Nat):Ar Tryd.prog:=CK 50 Tryd.func50 (e50 k)
noncomputable def fS (k:Nat)(x1:Int)(x2:Int)(x3:Int)(x4:Bool)(x5:Bool)(x6:Int)(x7:Ac)(x8:Int)(x9:Bool)(x10:Int)(x11:Ax):Option Bool :=
cond x9 (
some true) (
(eV k x1 x2 x3).bind fun y1 =>
some (decide (y1 < x10)))
def A32:AZ:=⟨[.pt 1000000 0],[(1000000,.bx 53 [.i .i64,.i .i64,.i .i64,.b,.pt 1000001 0,.b,.mp 1000002,.i .i64,.fz .u AD,.i .u32,.b,.i .i64]),(1000001,.bx 59 [.mp 1000003]),(1000002,.bx 3000000 []),(1000003,.mp ⟨.s,true,AG⟩)]⟩
def fe:List Al:=[.ti,.ti,.ti,.tb,.tb,.ti,.tl AD,.ti,.tb,.ti,.tm ⟨.s,true,AG⟩]
def R32:List AY:=[⟨.b,[],[.tb]⟩]
def n32:An:=.sq (.nd) (.sq (.mk [] [0,1,3,7,15,31,63,127,255,31,543,1567,3615,7711,16383,32767,65535]) (.nd))
theorem e32 (k:Nat)(y:Tup fe):EX Tryd.f32 A32 fe [1000000,1000001,1000002,1000003] R32 n32 [ez k] k y=fS k y.1 y.2.1 y.2.2.1 y.2.2.2.1 y.2.2.2.2.1 y.2.2.2.2.2.1 y.2.2.2.2.2.2.1 y.2.2.2.2.2.2.2.1 y.2.2.2.2.2.2.2.2.1 y.2.2.2.2.2.2.2.2.2.1 y.2.2.2.2.2.2.2.2.2.2:=by kernel_rfl
noncomputable def gk (k:Nat):Ar Tryd.prog:=CK 32 Tryd.func32 (e32 k)
noncomputable def ZI (k:Nat)(x1:Bu)(y40:(Ax × Bu))(z41:(Int × Int × Int × (List ByteArray))):Option ((Int × Int × Int × (List ByteArray)) ⊕ (Int × Int × (List ByteArray))) :=
cond (decide (z41.2.2.1 < (y40.2.length:Int))) (
(((ix y40.2 z41.2.2.1).bind fun a42 =>
(y40.2[z41.2.2.1.toNat]?).bind fun a43 =>
((cond (decide (z41.2.1 < (x1.length:Int))) (
(ix x1 z41.2.1).bind fun a44 =>
some ((a44.1.toList == a43.1.toList) && ((a44.2.1 == a43.2.1) && ((a44.2.2.1.toList == a43.2.2.1.toList) && ((a44.2.2.2 == a43.2.2.2) && true))))) (
some false):Option Bool)).bind fun y45 =>
cond y45 (
some (z41.1,(IntKind.wrap .i64 (z41.2.1+1)),z41.2.2.2)) (
Bl (decide ((z41.2.2.2.length+[a43.1].length) * 16<=140737488355328)) <|
some ((mx z41.1 a43.2.2.2),z41.2.1,(z41.2.2.2 ++ [a43.1]))):Option (Int × Int × (List ByteArray)))).bind fun y46 =>
some (.inl (y46.1,y46.2.1,(IntKind.wrap .i64 (z41.2.2.1+1)),y46.2.2))) (
some (.inr (z41.1,z41.2.1,z41.2.2.2)))
noncomputable def Zp (k:Nat)(x1:Bu)(y47:(Int × Int × (List ByteArray)))(z62:Int):Option (Int ⊕ (Unit ⊕ Unit)) :=
cond (decide (z62 < (x1.length:Int))) (
(ix x1 z62).bind fun a63 =>
cond (decide (a63.2.2.2<=y47.1)) (
some (.inr (.inl ()))) (
some (.inl (IntKind.wrap .i64 (z62+1))))) (
some (.inr (.inr ())))
noncomputable def eu (k:Nat)(x1:Bu)(x2:Int)(x3:Int)(x4:Int)(x5:Bool)(x6:Bool)(x7:Int)(x8:Ac)(x9:Int)(x10:Bool)(x11:Int)(x12:Ax):Option ((Bool × Ax) ⊕ (Bool × Ax × (List ByteArray))) :=
(bG k x2 x3 x4 x5 x6 x7 x8 x9 x10 x11 x12).bind fun y40 =>
(AX (ZI k x1 y40) k (0,0,0,([]:List ByteArray))).bind fun y47 =>
((cond (decide (y47.2.1 < (x1.length:Int))) (
some true) (
cond (decide (0 < (y47.2.2.length:Int))) (
(fS k x2 x3 x4 x5 x6 x7 x8 x9 x10 x11 y40.1).bind fun y51 =>
some (!y51)) (
some false)):Option Bool)).bind fun y52 =>
cond y52 (
some (.inl (false,y40.1))) (
(AX (Zp k x1 y47) k 0).bind fun y64 =>
Aq (fun y65 =>
some (.inl (false,y40.1))) (fun y66 =>
some (.inr (true,y40.1,y47.2.2))) y64)
def A27:AZ:=⟨[.pt 1000000 0,.fz .u AG],[(1000000,.bx 53 [.i .i64,.i .i64,.i .i64,.b,.pt 1000001 0,.b,.mp 1000002,.i .i64,.fz .u AD,.i .u32,.b,.i .i64]),(1000001,.bx 59 [.mp 1000003]),(1000002,.bx 3000000 []),(1000003,.mp ⟨.s,true,AG⟩)]⟩
def gh:List Al:=[.tl AG,.ti,.ti,.ti,.tb,.tb,.ti,.tl AD,.ti,.tb,.ti,.tm ⟨.s,true,AG⟩]
def R27:List AY:=[⟨.tp [.c (.slice none 0 0),.b],[(1000001,.bx 59 [.mp 1000003]),(1000003,.mp ⟨.s,true,AG⟩)],[.tb,.tm ⟨.s,true,AG⟩]⟩,⟨.tp [.sl .u 500000,.b],[(1000001,.bx 59 [.mp 1000003]),(1000003,.mp ⟨.s,true,AG⟩),(500000,.ar 9 (.str .nil))],[.tb,.tm ⟨.s,true,AG⟩,.tl (.str .nil)]⟩]
def n27:An:=.sq (.nd) (.sq (.nd) (.sq (.nd) (.sq (.sq (.nd) (.lp [0,1,14,15] [401400,1000001,1000003] ⟨[(6,.sl .n 300500),(7,.i .u32),(8,.i .i64),(16,.i .i64)],[(300500,.ar 9 (.str .nil))]⟩ [.ti,.ti,.ti,.tl (.str .nil)] [(2,⟨[(6,.sl .n 300525),(7,.i .u32),(8,.i .i64)],[(300525,.ar 9 (.str .nil))]⟩)] [[.ti,.ti,.tl (.str .nil)]] (.sq (.nd) (.sq (.nd) (.jn [16] [] [(0,⟨[(6,.sl .n 300850),(7,.i .u32),(8,.i .i64)],[(300850,.ar 9 (.str .nil))]⟩)] [[.ti,.ti,.tl (.str .nil)]] (.sq (.nd) (.sq (.jn [6,7,8,10] [10,300500] [(0,⟨[(31,.b)],[]⟩)] [[.tb]] (.mk [] [0,0,2,7,15,31,31,127,255,31,1023,2047]) (.nd)) (.nd))) (.nd)))))) (.sq (.jn [1,6,7] [300525,1000001,1000003] [(0,⟨[(57,.b)],[]⟩)] [[.tb]] (.nd) (.nd)) (.sq (.sq (.nd) (.lp [6,7,58,59] [300525,1000001,1000003] ⟨[(60,.i .i64)],[]⟩ [.ti] [(1,⟨[(4,.c (.slice none 0 0)),(5,.lb false)],[]⟩),(4,⟨[],[]⟩)] [[],[]] (.nd))) (.nd))))))
theorem e27 (k:Nat)(y:Tup gh):EX Tryd.f27 A27 gh [1000000,1000002] R27 n27 [gG k,gk k] k y=eu k y.1 y.2.1 y.2.2.1 y.2.2.2.1 y.2.2.2.2.1 y.2.2.2.2.2.1 y.2.2.2.2.2.2.1 y.2.2.2.2.2.2.2.1 y.2.2.2.2.2.2.2.2.1 y.2.2.2.2.2.2.2.2.2.1 y.2.2.2.2.2.2.2.2.2.2.1 y.2.2.2.2.2.2.2.2.2.2.2:=by kernel_rfl
noncomputable def C27 (k:Nat):Ar Tryd.prog:=CK 27 Tryd.func27 (e27 k)
noncomputable def aR (k:Nat)(x1:(List ByteArray))(z6:(Int × Ax)):Option ((Int × Ax) ⊕ Ax) :=
cond (decide (z6.1 < (x1.length:Int))) (
(ix x1 z6.1).bind fun a7 =>
some (.inl ((IntKind.wrap .i64 (z6.1+1)),(Cf Lk z6.2 a7)))) (
some (.inr z6.2))
noncomputable def Xe (k:Nat)(x1:(List ByteArray))(x2:Ax):Option Ax :=
(AX (aR k x1) k (0,x2)).bind fun y8 =>
some y8
def A28:AZ:=⟨[.pt 1000000 0,.fz .u (.str .nil)],[(1000000,.bx 59 [.mp 1000001]),(1000001,.mp ⟨.s,true,AG⟩)]⟩
def iW:List Al:=[.tl (.str .nil),.tm ⟨.s,true,AG⟩]
def R28:List AY:=[⟨.tp [],[(1000001,.mp ⟨.s,true,AG⟩)],[.tm ⟨.s,true,AG⟩]⟩]
def n28:An:=.sq (.nd) (.sq (.sq (.nd) (.lp [0,8,9] [] ⟨[(10,.i .i64)],[(1000001,.mp ⟨.s,true,AG⟩)]⟩ [.ti,.tm ⟨.s,true,AG⟩] [(2,⟨[],[(1000001,.mp ⟨.s,true,AG⟩)]⟩)] [[.tm ⟨.s,true,AG⟩]] (.nd))) (.nd))
theorem e28 (k:Nat)(y:Tup iW):EX Tryd.f28 A28 iW [1000000] R28 n28 [] k y=Xe k y.1 y.2:=by kernel_rfl
noncomputable def ZR (k:Nat):Ar Tryd.prog:=CK 28 Tryd.func28 (e28 k)
noncomputable def ZT (k:Nat)(x5:Bu)(z22:(Int × Int)):Option ((Int × Int) ⊕ Int) :=
cond (decide (z22.2 < (x5.length:Int))) (
(ix x5 z22.2).bind fun a23 =>
some (.inl ((mx z22.1 a23.2.2.2),(IntKind.wrap .i64 (z22.2+1))))) (
some (.inr z22.1))
noncomputable def ef (k:Nat)(x1:Int)(x2:Int)(x3:Int)(x4:Int)(x5:Bu)(x6:(List ByteArray))(x7:(List ByteArray))(x8:Int)(x9:Int)(x10:Int)(x11:Bool)(x12:Bool)(x13:Int)(x14:Ac)(x15:Int)(x16:Bool)(x17:Int)(x18:Ax):Option Po :=
cond x12 (
some ((x1 == 7),x8,x9,x10,x11,x12,x13,x14,x15,x16,x17,x18)) (
cond (x1 != 0) (
some ((x1 != 7),x8,x9,x10,x11,x12,x13,x14,x15,x16,x17,x18)) (
(((eu k x5 x8 x9 x10 x11 true x13 x14 x15 x16 x17 x18).bind fun y10 =>
Aq (fun y11 =>
some (y11.1,y11.2,([]:List ByteArray))) (fun y12 =>
some (y12.1,y12.2.1,y12.2.2)) y10:Option (Bool × Ax × (List ByteArray)))).bind fun y13 =>
cond y13.1 (
(Xe k y13.2.2 y13.2.1).bind fun y14 =>
some (true,x8,x9,x10,x11,true,x13,([]:List (ByteArray × Bool × ByteArray)),x15,x16,x17,y14)) (
cond ((x14.length:Int) == 0) (
some (false,x8,x9,x10,x11,true,x13,x14,x15,x16,x17,y13.2.1)) (
(AX (ZT k x5) k (0,0)).bind fun y24 =>
((cond (decide (y24<=x15)) (
some (IntKind.wrap .u32 (x15+1))) (
some y24):Option Int)).bind fun y25 =>
none))))
def A21:AZ:=⟨[.pt 1000000 0,.ag [.i .i64,.i .i64,.i .u32,.i .i64,.fz .u AG,.fz .u (.str .nil),.fz .u (.str .nil)]],[(1000000,.bx 53 [.i .i64,.i .i64,.i .i64,.b,.pt 1000001 0,.b,.mp 1000002,.i .i64,.fz .u AD,.i .u32,.b,.i .i64]),(1000001,.bx 59 [.mp 1000003]),(1000002,.bx 3000000 []),(1000003,.mp ⟨.s,true,AG⟩)]⟩
def hE:List Al:=[.ti,.ti,.ti,.ti,.tl AG,.tl (.str .nil),.tl (.str .nil),.ti,.ti,.ti,.tb,.tb,.ti,.tl AD,.ti,.tb,.ti,.tm ⟨.s,true,AG⟩]
def R21:List AY:=[⟨.b,[(1000000,.bx 53 [.i .i64,.i .i64,.i .i64,.b,.pt 1000001 0,.b,.mp 1000002,.i .i64,.fz .u AD,.i .u32,.b,.i .i64]),(1000001,.bx 59 [.mp 1000003]),(1000002,.bx 3000000 []),(1000003,.mp ⟨.s,true,AG⟩)],[.tb,.ti,.ti,.ti,.tb,.tb,.ti,.tl AD,.ti,.tb,.ti,.tm ⟨.s,true,AG⟩]⟩]
def n21:An:=.sq (.nd) (.sq (.nd) (.sq (.nd) (.sq (.nd) (.sq (.jn [0,3] [3,1000000,1000002] [(0,⟨[(5,.sl .u 301050),(6,.b)],[(1000001,.bx 59 [.mp 1000003]),(1000003,.mp ⟨.s,true,AG⟩),(301050,.ar 9 (.str .nil))]⟩)] [[.tb,.tm ⟨.s,true,AG⟩,.tl (.str .nil)]] (.nd) (.sq (.nd) (.sq (.sq (.nd) (.sq (.fr [(5,301050)]) (.nd))) (.nd)))) (.sq (.nd) (.sq (.nd) (.sq (.sq (.nd) (.lp [0,3,52,53] [3,1000000,1000001,1000002,1000003] ⟨[(7,.i .u32),(54,.i .i64)],[]⟩ [.ti,.ti] [(2,⟨[(7,.i .u32)],[]⟩)] [[.ti]] (.nd))) (.jn [0,3] [3,1000000,1000001,1000002,1000003] [(0,⟨[(7,.i .u32)],[]⟩)] [[.ti]] (.nd) (.nd)))))))))
theorem e21 (k:Nat)(y:Tup hE):EX Tryd.f21 A21 hE [] R21 n21 [C27 k,ZR k] k y=ef k y.1 y.2.1 y.2.2.1 y.2.2.2.1 y.2.2.2.2.1 y.2.2.2.2.2.1 y.2.2.2.2.2.2.1 y.2.2.2.2.2.2.2.1 y.2.2.2.2.2.2.2.2.1 y.2.2.2.2.2.2.2.2.2.1 y.2.2.2.2.2.2.2.2.2.2.1 y.2.2.2.2.2.2.2.2.2.2.2.1 y.2.2.2.2.2.2.2.2.2.2.2.2.1 y.2.2.2.2.2.2.2.2.2.2.2.2.2.1 y.2.2.2.2.2.2.2.2.2.2.2.2.2.2.1 y.2.2.2.2.2.2.2.2.2.2.2.2.2.2.2.1 y.2.2.2.2.2.2.2.2.2.2.2.2.2.2.2.2.1 y.2.2.2.2.2.2.2.2.2.2.2.2.2.2.2.2.2:=by kernel_rfl
noncomputable def C21 (k:Nat):Ar Tryd.prog:=CK 21 Tryd.func21 (e21 k)
noncomputable def aU (k:Nat):Option (Ba × Ac) :=
some (([]:List (ByteArray × Int × Int)),([]:List (ByteArray × Bool × ByteArray)))
def A37:AZ:=⟨[],[]⟩
def iA:List Al:=[]
def R37:List AY:=[⟨.pt 500000 0,[(500000,.bx 89 [.sl .u 500001,.fz .u AL]),(500001,.ar 91 AD)],[.tl AL,.tl AD]⟩]
def n37:An:=.nd
theorem e37 (k:Nat)(y:Tup iA):EX Tryd.f37 A37 iA [] R37 n37 [] k y=aU k:=by kernel_rfl
noncomputable def eR (k:Nat):Ar Tryd.prog:=CK 37 Tryd.func37 (e37 k)
noncomputable def ZD (k:Nat)(y17:Bu)(z18:(Int × Int)):Option ((Int × Int) ⊕ (Unit ⊕ Int)) :=
cond (decide (z18.2 < (y17.length:Int))) (
(ix y17 z18.2).bind fun a19 =>
(y17[z18.2.toNat]?).bind fun a20 =>
cond (!a20.2.1) (
some (.inr (.inl ()))) (
some (.inl ((mx z18.1 a20.2.2.2),(IntKind.wrap .i64 (z18.2+1)))))) (
some (.inr (.inr z18.1)))
noncomputable def ZP (k:Nat)(y23:Int)(y42:(Ax × Bu))(z43:Int):Option (Int ⊕ (Unit ⊕ Unit)) :=
cond (decide (z43 < (y42.2.length:Int))) (
(ix y42.2 z43).bind fun a44 =>
(y42.2[z43.toNat]?).bind fun a45 =>
cond (decide (a45.2.2.2<=y23)) (
some (.inr (.inl ()))) (
some (.inl (IntKind.wrap .i64 (z43+1))))) (
some (.inr (.inr ())))
noncomputable def dz (k:Nat)(x1:(List ByteArray))(x2:Int)(x3:Int)(x4:Int)(x5:Bool)(x6:Bool)(x7:Int)(x8:Ac)(x9:Int)(x10:Bool)(x11:Int)(x12:Ax):Option (Bool × Ax) :=
cond ((x1.length:Int) == 0) (
some (true,x12)) (
(Xx k x1 x12).bind fun y17 =>
(AX (ZD k y17) k (0,0)).bind fun y21 =>
Aq (fun y22 =>
some (false,x12)) (fun y23 =>
(Xe k x1 x12).bind fun y25 =>
(bG k x2 x3 x4 x5 x6 x7 x8 x9 x10 x11 y25).bind fun y42 =>
(AX (ZP k y23 y42) k 0).bind fun y46 =>
Aq (fun y47 =>
some (false,y42.1)) (fun y48 =>
(fS k x2 x3 x4 x5 x6 x7 x8 x9 x10 x11 y42.1).bind fun y49 =>
some (y49,y42.1)) y46) y21)
def A23:AZ:=⟨[.pt 1000000 0,.fz .u (.str .nil)],[(1000000,.bx 53 [.i .i64,.i .i64,.i .i64,.b,.pt 1000001 0,.b,.mp 1000002,.i .i64,.fz .u AD,.i .u32,.b,.i .i64]),(1000001,.bx 59 [.mp 1000003]),(1000002,.bx 3000000 []),(1000003,.mp ⟨.s,true,AG⟩)]⟩
def iK:List Al:=[.tl (.str .nil),.ti,.ti,.ti,.tb,.tb,.ti,.tl AD,.ti,.tb,.ti,.tm ⟨.s,true,AG⟩]
def R23:List AY:=[⟨.b,[(1000001,.bx 59 [.mp 1000003]),(1000003,.mp ⟨.s,true,AG⟩)],[.tb,.tm ⟨.s,true,AG⟩]⟩]
def n23:An:=.sq (.nd) (.sq (.nd) (.sq (.nd) (.sq (.sq (.nd) (.lp [0,1,18,19] [401800,1000001,1000003] ⟨[(5,.i .u32),(20,.i .i64)],[]⟩ [.ti,.ti] [(1,⟨[(4,.lb false)],[]⟩),(2,⟨[(5,.i .u32)],[]⟩)] [[],[.ti]] (.nd))) (.sq (.nd) (.sq (.sq (.nd) (.lp [0,5,39,40] [403900,1000001,1000003] ⟨[(41,.i .i64)],[]⟩ [.ti] [(1,⟨[(4,.lb false)],[]⟩),(4,⟨[],[]⟩)] [[],[]] (.nd))) (.nd))))))
theorem e23 (k:Nat)(y:Tup iK):EX Tryd.f23 A23 iK [1000000,1000002] R23 n23 [ZW k,ZR k,gG k,gk k] k y=dz k y.1 y.2.1 y.2.2.1 y.2.2.2.1 y.2.2.2.2.1 y.2.2.2.2.2.1 y.2.2.2.2.2.2.1 y.2.2.2.2.2.2.2.1 y.2.2.2.2.2.2.2.2.1 y.2.2.2.2.2.2.2.2.2.1 y.2.2.2.2.2.2.2.2.2.2.1 y.2.2.2.2.2.2.2.2.2.2.2:=by kernel_rfl
noncomputable def fX (k:Nat):Ar Tryd.prog:=CK 23 Tryd.func23 (e23 k)
noncomputable def gr (k:Nat)(x1:Int)(x2:Int)(x3:ByteArray)(x4:ByteArray)(x5:(List ByteArray))(x6:Int)(x7:(List Int))(x8:Int)(x9:Int)(x10:Int)(x11:Int)(x12:Int)(x13:Int)(x14:Int)(x15:Bu)(x16:(List ByteArray))(x17:(List ByteArray))(x18:Int)(x19:Int)(x20:Int)(x21:Bool)(x22:Bool)(x23:Int)(x24:Ac)(x25:Int)(x26:Bool)(x27:Int)(x28:Ax):Option (Po ⊕ LM) :=
cond (x1 == 1) (
cond (x11 != 0) (
some (.inl (true,x18,x19,x20,x21,x22,x23,x24,x25,x26,x27,x28))) (
(aU k).bind fun y4 =>
some (.inr ((x12 == (IntKind.wrap .i64 (x23+1))),x18,x19,x20,x21,x22,(IntKind.wrap .i64 (x23+1)),x24,x25,x26,x27,(IntKind.wrap .i64 (x23+1)),x28,y4.1,y4.2)))) (
cond (x1 == 8) (
cond (x11 != 0) (
some (.inl (true,x18,x19,x20,x21,x22,x23,x24,x25,x26,x27,x28))) (
none)) (
((cond (x1 == 9) (
some (x11 == 0)) (
some false):Option Bool)).bind fun y5 =>
cond y5 (
none) (
(dz k x17 x18 x19 x20 x21 x22 x23 x24 x25 x26 x27 x28).bind fun y6 =>
some (.inl (y6.1,x18,x19,x20,x21,x22,x23,x24,x25,x26,x27,y6.2)))))
def A25:AZ:=⟨[.pt 1000000 0,.ag [.i .i64,.i .i64,.s,.s,.fz .u (.str .nil),.i .i64,.fz .u Hc,.i .i64,.i .i64,.i .i64],.ag [.i .i64,.i .i64,.i .u32,.i .i64,.fz .u AG,.fz .u (.str .nil),.fz .u (.str .nil)]],[(1000000,.bx 53 [.i .i64,.i .i64,.i .i64,.b,.pt 1000001 0,.b,.mp 1000002,.i .i64,.fz .u AD,.i .u32,.b,.i .i64]),(1000001,.bx 59 [.mp 1000003]),(1000002,.bx 3000000 []),(1000003,.mp ⟨.s,true,AG⟩)]⟩
def gO:List Al:=[.ti,.ti,.ts,.ts,.tl (.str .nil),.ti,.tl Hc,.ti,.ti,.ti,.ti,.ti,.ti,.ti,.tl AG,.tl (.str .nil),.tl (.str .nil),.ti,.ti,.ti,.tb,.tb,.ti,.tl AD,.ti,.tb,.ti,.tm ⟨.s,true,AG⟩]
def R25:List AY:=[⟨.b,[(1000000,.bx 53 [.i .i64,.i .i64,.i .i64,.b,.pt 1000001 0,.b,.mp 1000002,.i .i64,.fz .u AD,.i .u32,.b,.i .i64]),(1000001,.bx 59 [.mp 1000003]),(1000002,.bx 3000000 []),(1000003,.mp ⟨.s,true,AG⟩)],[.tb,.ti,.ti,.ti,.tb,.tb,.ti,.tl AD,.ti,.tb,.ti,.tm ⟨.s,true,AG⟩]⟩,⟨.b,[(1000000,.bx 53 [.i .i64,.i .i64,.i .i64,.b,.pt 1000001 0,.b,.mp 1000002,.i .i64,.fz .u AD,.i .u32,.b,.i .i64]),(1000001,.bx 59 [.mp 1000003]),(1000002,.bx 3000000 [.i .i64,.pt 500000 0]),(1000003,.mp ⟨.s,true,AG⟩),(500000,.bx 89 [.sl .u 500001,.fz .u AL]),(500001,.ar 91 AD)],[.tb,.ti,.ti,.ti,.tb,.tb,.ti,.tl AD,.ti,.tb,.ti,.ti,.tm ⟨.s,true,AG⟩,.tl AL,.tl AD]⟩]
def n25:An:=.sq (.nd) (.sq (.sq (.nd) (.sq (.sq (.nd) (.sq (.nd) (.sq (.mk [] [0,1,3,7,0,16,48,112,0,511]) (.sq (.mk [] [0,1,0,4,12,28,63,127]) (.nd))))) (.sq (.nd) (.sq (.sq (.mk [] [0,1,3,7,15,31,15,15,143,463,1023,2047,4095]) (.nd)) (.jn [0,4,5] [4,5,1000000,1000001,1000002,1000003] [(0,⟨[(54,.b)],[]⟩)] [[.tb]] (.nd) (.nd)))))) (.nd))
theorem e25 (k:Nat)(y:Tup gO):EX Tryd.f25 A25 gO [] R25 n25 [eR k,fX k] k y=gr k y.1 y.2.1 y.2.2.1 y.2.2.2.1 y.2.2.2.2.1 y.2.2.2.2.2.1 y.2.2.2.2.2.2.1 y.2.2.2.2.2.2.2.1 y.2.2.2.2.2.2.2.2.1 y.2.2.2.2.2.2.2.2.2.1 y.2.2.2.2.2.2.2.2.2.2.1 y.2.2.2.2.2.2.2.2.2.2.2.1 y.2.2.2.2.2.2.2.2.2.2.2.2.1 y.2.2.2.2.2.2.2.2.2.2.2.2.2.1 y.2.2.2.2.2.2.2.2.2.2.2.2.2.2.1 y.2.2.2.2.2.2.2.2.2.2.2.2.2.2.2.1 y.2.2.2.2.2.2.2.2.2.2.2.2.2.2.2.2.1 y.2.2.2.2.2.2.2.2.2.2.2.2.2.2.2.2.2.1 y.2.2.2.2.2.2.2.2.2.2.2.2.2.2.2.2.2.2.1 y.2.2.2.2.2.2.2.2.2.2.2.2.2.2.2.2.2.2.2.1 y.2.2.2.2.2.2.2.2.2.2.2.2.2.2.2.2.2.2.2.2.1 y.2.2.2.2.2.2.2.2.2.2.2.2.2.2.2.2.2.2.2.2.2.1 y.2.2.2.2.2.2.2.2.2.2.2.2.2.2.2.2.2.2.2.2.2.2.1 y.2.2.2.2.2.2.2.2.2.2.2.2.2.2.2.2.2.2.2.2.2.2.2.1 y.2.2.2.2.2.2.2.2.2.2.2.2.2.2.2.2.2.2.2.2.2.2.2.2.1 y.2.2.2.2.2.2.2.2.2.2.2.2.2.2.2.2.2.2.2.2.2.2.2.2.2.1 y.2.2.2.2.2.2.2.2.2.2.2.2.2.2.2.2.2.2.2.2.2.2.2.2.2.2.1 y.2.2.2.2.2.2.2.2.2.2.2.2.2.2.2.2.2.2.2.2.2.2.2.2.2.2.2:=by kernel_rfl
noncomputable def C25 (k:Nat):Ar Tryd.prog:=CK 25 Tryd.func25 (e25 k)
noncomputable def ej (k:Nat)(x1:Int)(x2:Int)(x3:ByteArray)(x4:ByteArray)(x5:(List ByteArray))(x6:Int)(x7:(List Int))(x8:Int)(x9:Int)(x10:Int)(x11:Int)(x12:Int)(x13:Int)(x14:Int)(x15:Bu)(x16:(List ByteArray))(x17:(List ByteArray))(x18:Int)(x19:Int)(x20:Int)(x21:Bool)(x22:Bool)(x23:Int)(x24:Ac)(x25:Int)(x26:Bool)(x27:Int)(x28:Ax):Option (Po ⊕ Po ⊕ LM) :=
((cond (x1 == 11) (
some true) (
cond (x1 == 12) (
some true) (
some (x1 == 13))):Option Bool)).bind fun y9 =>
cond y9 (
((cond (x1 == 12) (
(gw k x18 x19 x20 x21 x22 x23 x24 x25 true x27 x28).bind fun y10 =>
some (.inl (y10.1,y10.2.1,y10.2.2.1,y10.2.2.2.1,y10.2.2.2.2.1,y10.2.2.2.2.2.1,y10.2.2.2.2.2.2.1,y10.2.2.2.2.2.2.2.1,y10.2.2.2.2.2.2.2.2.1,y10.2.2.2.2.2.2.2.2.2))) (
some (.inr (x18,x19,x20,x21,x22,x23,x24,x25,x27))):Option (KU ⊕ (Int × Int × Int × Bool × Bool × Int × Ac × Int × Int)))).bind fun y11 =>
Aq (fun y12 =>
some (.inl (true,y12.1,y12.2.1,y12.2.2.1,y12.2.2.2.1,y12.2.2.2.2.1,y12.2.2.2.2.2.1,y12.2.2.2.2.2.2.1,y12.2.2.2.2.2.2.2.1,y12.2.2.2.2.2.2.2.2.1,y12.2.2.2.2.2.2.2.2.2,x28))) (fun y13 =>
some (.inr (.inl (true,y13.1,y13.2.1,y13.2.2.1,y13.2.2.2.1,y13.2.2.2.2.1,y13.2.2.2.2.2.1,y13.2.2.2.2.2.2.1,y13.2.2.2.2.2.2.2.1,true,y13.2.2.2.2.2.2.2.2,x28)))) y11) (
cond (x1 == 14) (
(ef k x11 x12 x13 x14 x15 x16 x17 x18 x19 x20 x21 x22 x23 x24 x25 x26 x27 x28).bind fun y14 =>
some (.inr (.inl (y14.1,y14.2.1,y14.2.2.1,y14.2.2.2.1,y14.2.2.2.2.1,y14.2.2.2.2.2.1,y14.2.2.2.2.2.2.1,y14.2.2.2.2.2.2.2.1,y14.2.2.2.2.2.2.2.2.1,y14.2.2.2.2.2.2.2.2.2.1,y14.2.2.2.2.2.2.2.2.2.2.1,y14.2.2.2.2.2.2.2.2.2.2.2)))) (
((cond (decide (x1 < 1)) (
some true) (
some (decide (14 < x1))):Option Bool)).bind fun y15 =>
cond y15 (
some (.inr (.inl ((x11 == 1),x18,x19,x20,x21,x22,x23,x24,x25,x26,x27,x28)))) (
cond (!x22) (
some (.inr (.inl ((x11 == 6),x18,x19,x20,x21,x22,x23,x24,x25,x26,x27,x28)))) (
((cond x26 (
some (x18,x19,x20,x21,x22,x23,x24,x25,true,x27)) (
some (x18,x19,x20,x21,x22,x23,x24,x25,(x1 == 7),x27)):Option KU)).bind fun y16 =>
((cond (x11 == 6) (
some true) (
some (x11 == 7)):Option Bool)).bind fun y18 =>
cond y18 (
none) (
((cond (x1 == 2) (
some (x1 == 2)) (
cond (x1 == 3) (
some (x1 == 3)) (
cond (x1 == 4) (
some (x1 == 4)) (
cond (x1 == 5) (
some (x1 == 5)) (
some (x1 == 6))))):Option Bool)).bind fun y20 =>
cond y20 (
some (.inr (.inl ((x11 == 9),y16.1,y16.2.1,y16.2.2.1,y16.2.2.2.1,y16.2.2.2.2.1,y16.2.2.2.2.2.1,y16.2.2.2.2.2.2.1,y16.2.2.2.2.2.2.2.1,y16.2.2.2.2.2.2.2.2.1,y16.2.2.2.2.2.2.2.2.2,x28)))) (
(gr k x1 x2 x3 x4 x5 x6 x7 x8 x9 x10 x11 x12 x13 x14 x15 x16 x17 y16.1 y16.2.1 y16.2.2.1 y16.2.2.2.1 y16.2.2.2.2.1 y16.2.2.2.2.2.1 y16.2.2.2.2.2.2.1 y16.2.2.2.2.2.2.2.1 y16.2.2.2.2.2.2.2.2.1 y16.2.2.2.2.2.2.2.2.2 x28).bind fun y21 =>
Aq (fun y22 =>
some (.inr (.inl (y22.1,y22.2.1,y22.2.2.1,y22.2.2.2.1,y22.2.2.2.2.1,y22.2.2.2.2.2.1,y22.2.2.2.2.2.2.1,y22.2.2.2.2.2.2.2.1,y22.2.2.2.2.2.2.2.2.1,y22.2.2.2.2.2.2.2.2.2.1,y22.2.2.2.2.2.2.2.2.2.2.1,y22.2.2.2.2.2.2.2.2.2.2.2)))) (fun y23 =>
some (.inr (.inr (y23.1,y23.2.1,y23.2.2.1,y23.2.2.2.1,y23.2.2.2.2.1,y23.2.2.2.2.2.1,y23.2.2.2.2.2.2.1,y23.2.2.2.2.2.2.2.1,y23.2.2.2.2.2.2.2.2.1,y23.2.2.2.2.2.2.2.2.2.1,y23.2.2.2.2.2.2.2.2.2.2.1,y23.2.2.2.2.2.2.2.2.2.2.2.1,y23.2.2.2.2.2.2.2.2.2.2.2.2.1,y23.2.2.2.2.2.2.2.2.2.2.2.2.2.1,y23.2.2.2.2.2.2.2.2.2.2.2.2.2.2)))) y21))))))
def A17:AZ:=⟨[.pt 1000000 0,.ag [.i .i64,.i .i64,.s,.s,.fz .u (.str .nil),.i .i64,.fz .u Hc,.i .i64,.i .i64,.i .i64],.ag [.i .i64,.i .i64,.i .u32,.i .i64,.fz .u AG,.fz .u (.str .nil),.fz .u (.str .nil)]],[(1000000,.bx 53 [.i .i64,.i .i64,.i .i64,.b,.pt 1000001 0,.b,.mp 1000002,.i .i64,.fz .u AD,.i .u32,.b,.i .i64]),(1000001,.bx 59 [.mp 1000003]),(1000002,.bx 3000000 []),(1000003,.mp ⟨.s,true,AG⟩)]⟩
def gD:List Al:=[.ti,.ti,.ts,.ts,.tl (.str .nil),.ti,.tl Hc,.ti,.ti,.ti,.ti,.ti,.ti,.ti,.tl AG,.tl (.str .nil),.tl (.str .nil),.ti,.ti,.ti,.tb,.tb,.ti,.tl AD,.ti,.tb,.ti,.tm ⟨.s,true,AG⟩]
def R17:List AY:=[⟨.b,[(1000000,.bx 53 [.i .i64,.i .i64,.i .i64,.b,.pt 1000001 0,.b,.mp 500000,.i .i64,.fz .u AD,.i .u32,.b,.i .i64]),(1000001,.bx 59 [.mp 1000003]),(1000002,.bx 3000000 []),(1000003,.mp ⟨.s,true,AG⟩),(500000,.bx 3000000 [])],[.tb,.ti,.ti,.ti,.tb,.tb,.ti,.tl AD,.ti,.tb,.ti,.tm ⟨.s,true,AG⟩]⟩,⟨.b,[(1000000,.bx 53 [.i .i64,.i .i64,.i .i64,.b,.pt 1000001 0,.b,.mp 1000002,.i .i64,.fz .u AD,.i .u32,.b,.i .i64]),(1000001,.bx 59 [.mp 1000003]),(1000002,.bx 3000000 []),(1000003,.mp ⟨.s,true,AG⟩)],[.tb,.ti,.ti,.ti,.tb,.tb,.ti,.tl AD,.ti,.tb,.ti,.tm ⟨.s,true,AG⟩]⟩,⟨.b,[(1000000,.bx 53 [.i .i64,.i .i64,.i .i64,.b,.pt 1000001 0,.b,.mp 1000002,.i .i64,.fz .u AD,.i .u32,.b,.i .i64]),(1000001,.bx 59 [.mp 1000003]),(1000002,.bx 3000000 [.i .i64,.pt 500000 0]),(1000003,.mp ⟨.s,true,AG⟩),(500000,.bx 89 [.sl .u 500001,.fz .u AL]),(500001,.ar 91 AD)],[.tb,.ti,.ti,.ti,.tb,.tb,.ti,.tl AD,.ti,.tb,.ti,.ti,.tm ⟨.s,true,AG⟩,.tl AL,.tl AD]⟩]
def n17:An:=.sq (.nd) (.sq (.jn [0,4,5] [4,5,1000000,1000001,1000002,1000003] [(0,⟨[(10,.b)],[]⟩)] [[.tb]] (.nd) (.sq (.sq (.nd) (.jn [] [1000001,1000002,1000003] [(0,⟨[],[(1000000,.bx 53 [.i .i64,.i .i64,.i .i64,.b,.pt 1000001 0,.b,.mp 300450,.i .i64,.fz .u AD,.i .u32,.b,.i .i64]),(300450,.bx 3000000 [])]⟩),(0,⟨[],[(1000000,.bx 53 [.i .i64,.i .i64,.i .i64,.b,.pt 1000001 0,.b,.mp 1000002,.i .i64,.fz .u AD,.i .u32,.lb true,.i .i64])]⟩)] [[.ti,.ti,.ti,.tb,.tb,.ti,.tl AD,.ti,.tb,.ti],[.ti,.ti,.ti,.tb,.tb,.ti,.tl AD,.ti,.ti]] (.nd) (.nd))) (.sq (.nd) (.sq (.nd) (.jn [0,4,5] [4,5,1000000,1000001,1000002,1000003] [(0,⟨[(39,.b)],[]⟩)] [[.tb]] (.nd) (.nd)))))) (.jn [0,4,5] [4,5,1000001,1000002,1000003] [(0,⟨[],[(1000000,.bx 53 [.i .i64,.i .i64,.i .i64,.b,.pt 1000001 0,.b,.mp 1000002,.i .i64,.fz .u AD,.i .u32,.b,.i .i64])]⟩)] [[.ti,.ti,.ti,.tb,.tb,.ti,.tl AD,.ti,.tb,.ti]] (.nd) (.sq (.jn [0,4,5] [4,5,1000000,1000001,1000002,1000003] [(0,⟨[(79,.b)],[]⟩)] [[.tb]] (.nd) (.nd)) (.sq (.sq (.nd) (.jn [0,4,5] [4,5,1000000,1000001,1000002,1000003] [(0,⟨[(95,.b)],[]⟩)] [[.tb]] (.nd) (.sq (.sq (.mk [] [0,1,3,7,0,16,63,127,255,255,511,2047]) (.nd)) (.nd)))) (.nd)))))
theorem e17 (k:Nat)(y:Tup gD):EX Tryd.f17 A17 gD [] R17 n17 [C20 k,C21 k,C25 k] k y=ej k y.1 y.2.1 y.2.2.1 y.2.2.2.1 y.2.2.2.2.1 y.2.2.2.2.2.1 y.2.2.2.2.2.2.1 y.2.2.2.2.2.2.2.1 y.2.2.2.2.2.2.2.2.1 y.2.2.2.2.2.2.2.2.2.1 y.2.2.2.2.2.2.2.2.2.2.1 y.2.2.2.2.2.2.2.2.2.2.2.1 y.2.2.2.2.2.2.2.2.2.2.2.2.1 y.2.2.2.2.2.2.2.2.2.2.2.2.2.1 y.2.2.2.2.2.2.2.2.2.2.2.2.2.2.1 y.2.2.2.2.2.2.2.2.2.2.2.2.2.2.2.1 y.2.2.2.2.2.2.2.2.2.2.2.2.2.2.2.2.1 y.2.2.2.2.2.2.2.2.2.2.2.2.2.2.2.2.2.1 y.2.2.2.2.2.2.2.2.2.2.2.2.2.2.2.2.2.2.1 y.2.2.2.2.2.2.2.2.2.2.2.2.2.2.2.2.2.2.2.1 y.2.2.2.2.2.2.2.2.2.2.2.2.2.2.2.2.2.2.2.2.1 y.2.2.2.2.2.2.2.2.2.2.2.2.2.2.2.2.2.2.2.2.2.1 y.2.2.2.2.2.2.2.2.2.2.2.2.2.2.2.2.2.2.2.2.2.2.1 y.2.2.2.2.2.2.2.2.2.2.2.2.2.2.2.2.2.2.2.2.2.2.2.1 y.2.2.2.2.2.2.2.2.2.2.2.2.2.2.2.2.2.2.2.2.2.2.2.2.1 y.2.2.2.2.2.2.2.2.2.2.2.2.2.2.2.2.2.2.2.2.2.2.2.2.2.1 y.2.2.2.2.2.2.2.2.2.2.2.2.2.2.2.2.2.2.2.2.2.2.2.2.2.2.1 y.2.2.2.2.2.2.2.2.2.2.2.2.2.2.2.2.2.2.2.2.2.2.2.2.2.2.2:=by kernel_rfl
noncomputable def C17 (k:Nat):Ar Tryd.prog:=CK 17 Tryd.func17 (e17 k)
noncomputable def Vs (k:Nat)(x1:Int)(x2:Int)(x3:ByteArray)(x4:ByteArray)(x5:(List ByteArray))(x6:Int)(x7:(List Int))(x8:Int)(x9:Int)(x10:Int)(x11:Int)(x12:Int)(x13:Int)(x14:Int)(x15:Bu)(x16:(List ByteArray))(x17:(List ByteArray))(x18:Int)(x19:Int)(x20:Int)(x21:Bool)(x22:Bool)(x23:Int)(x24:Ac)(x25:Int)(x26:Bool)(x27:Int)(x28:Ax):Option (Po ⊕ Po ⊕ LM) :=
cond x21 (
some (.inl (false,x18,x19,x20,x21,x22,x23,x24,x25,x26,x27,x28))) (
(((ej k x1 x2 x3 x4 x5 x6 x7 x8 x9 x10 x11 x12 x13 x14 x15 x16 x17 x18 x19 x20 x21 x22 x23 x24 x25 x26 x27 x28).bind fun y6 =>
Aq (fun y7 =>
some (.inl (y7.2.1,y7.2.2.1,y7.2.2.2.1,(!y7.1),y7.2.2.2.2.2.1,y7.2.2.2.2.2.2.1,y7.2.2.2.2.2.2.2.1,y7.2.2.2.2.2.2.2.2.1,y7.2.2.2.2.2.2.2.2.2.1,y7.2.2.2.2.2.2.2.2.2.2.1,y7.2.2.2.2.2.2.2.2.2.2.2))) (fun y8 =>
Aq (fun y9 =>
some (.inr (.inl (y9.2.1,y9.2.2.1,y9.2.2.2.1,(!y9.1),y9.2.2.2.2.2.1,y9.2.2.2.2.2.2.1,y9.2.2.2.2.2.2.2.1,y9.2.2.2.2.2.2.2.2.1,y9.2.2.2.2.2.2.2.2.2.1,y9.2.2.2.2.2.2.2.2.2.2.1,y9.2.2.2.2.2.2.2.2.2.2.2)))) (fun y10 =>
some (.inr (.inr (y10.2.1,y10.2.2.1,y10.2.2.2.1,(!y10.1),y10.2.2.2.2.2.1,y10.2.2.2.2.2.2.1,y10.2.2.2.2.2.2.2.1,y10.2.2.2.2.2.2.2.2.1,y10.2.2.2.2.2.2.2.2.2.1,y10.2.2.2.2.2.2.2.2.2.2.1,y10.2.2.2.2.2.2.2.2.2.2.2.1,y10.2.2.2.2.2.2.2.2.2.2.2.2.1,y10.2.2.2.2.2.2.2.2.2.2.2.2.2.1,y10.2.2.2.2.2.2.2.2.2.2.2.2.2.2)))) y8) y6:Option ((Int × Int × Int × Bool × Bool × Int × Ac × Int × Bool × Int × Ax) ⊕ (Int × Int × Int × Bool × Bool × Int × Ac × Int × Bool × Int × Ax) ⊕ (Int × Int × Int × Bool × Bool × Int × Ac × Int × Bool × Int × Int × Ax × Ba × Ac)))).bind fun y11 =>
Aq (fun y12 =>
some (.inr (.inl ((!y12.2.2.2.1),y12.1,y12.2.1,y12.2.2.1,y12.2.2.2.1,y12.2.2.2.2.1,y12.2.2.2.2.2.1,y12.2.2.2.2.2.2.1,y12.2.2.2.2.2.2.2.1,y12.2.2.2.2.2.2.2.2.1,y12.2.2.2.2.2.2.2.2.2.1,y12.2.2.2.2.2.2.2.2.2.2)))) (fun y13 =>
Aq (fun y14 =>
some (.inl ((!y14.2.2.2.1),y14.1,y14.2.1,y14.2.2.1,y14.2.2.2.1,y14.2.2.2.2.1,y14.2.2.2.2.2.1,y14.2.2.2.2.2.2.1,y14.2.2.2.2.2.2.2.1,y14.2.2.2.2.2.2.2.2.1,y14.2.2.2.2.2.2.2.2.2.1,y14.2.2.2.2.2.2.2.2.2.2))) (fun y15 =>
some (.inr (.inr ((!y15.2.2.2.1),y15.1,y15.2.1,y15.2.2.1,y15.2.2.2.1,y15.2.2.2.2.1,y15.2.2.2.2.2.1,y15.2.2.2.2.2.2.1,y15.2.2.2.2.2.2.2.1,y15.2.2.2.2.2.2.2.2.1,y15.2.2.2.2.2.2.2.2.2.1,y15.2.2.2.2.2.2.2.2.2.2.1,y15.2.2.2.2.2.2.2.2.2.2.2.1,y15.2.2.2.2.2.2.2.2.2.2.2.2.1,y15.2.2.2.2.2.2.2.2.2.2.2.2.2)))) y13) y11)
def A10:AZ:=⟨[.pt 1000000 0,.ag [.i .i64,.i .i64,.s,.s,.fz .u (.str .nil),.i .i64,.fz .u Hc,.i .i64,.i .i64,.i .i64],.ag [.i .i64,.i .i64,.i .u32,.i .i64,.fz .u AG,.fz .u (.str .nil),.fz .u (.str .nil)]],[(1000000,.bx 53 [.i .i64,.i .i64,.i .i64,.b,.pt 1000001 0,.b,.mp 1000002,.i .i64,.fz .u AD,.i .u32,.b,.i .i64]),(1000001,.bx 59 [.mp 1000003]),(1000002,.bx 3000000 []),(1000003,.mp ⟨.s,true,AG⟩)]⟩
def iT:List Al:=[.ti,.ti,.ts,.ts,.tl (.str .nil),.ti,.tl Hc,.ti,.ti,.ti,.ti,.ti,.ti,.ti,.tl AG,.tl (.str .nil),.tl (.str .nil),.ti,.ti,.ti,.tb,.tb,.ti,.tl AD,.ti,.tb,.ti,.tm ⟨.s,true,AG⟩]
def R10:List AY:=[⟨.b,[(1000000,.bx 53 [.i .i64,.i .i64,.i .i64,.b,.pt 1000001 0,.b,.mp 1000002,.i .i64,.fz .u AD,.i .u32,.b,.i .i64]),(1000001,.bx 59 [.mp 1000003]),(1000002,.bx 3000000 []),(1000003,.mp ⟨.s,true,AG⟩)],[.tb,.ti,.ti,.ti,.tb,.tb,.ti,.tl AD,.ti,.tb,.ti,.tm ⟨.s,true,AG⟩]⟩,⟨.b,[(1000000,.bx 53 [.i .i64,.i .i64,.i .i64,.b,.pt 1000001 0,.b,.mp 500000,.i .i64,.fz .u AD,.i .u32,.b,.i .i64]),(1000001,.bx 59 [.mp 1000003]),(1000002,.bx 3000000 []),(1000003,.mp ⟨.s,true,AG⟩),(500000,.bx 3000000 [])],[.tb,.ti,.ti,.ti,.tb,.tb,.ti,.tl AD,.ti,.tb,.ti,.tm ⟨.s,true,AG⟩]⟩,⟨.b,[(1000000,.bx 53 [.i .i64,.i .i64,.i .i64,.b,.pt 1000001 0,.b,.mp 1000002,.i .i64,.fz .u AD,.i .u32,.b,.i .i64]),(1000001,.bx 59 [.mp 1000003]),(1000002,.bx 3000000 [.i .i64,.pt 500000 0]),(1000003,.mp ⟨.s,true,AG⟩),(500000,.bx 89 [.sl .u 500001,.fz .u AL]),(500001,.ar 91 AD)],[.tb,.ti,.ti,.ti,.tb,.tb,.ti,.tl AD,.ti,.tb,.ti,.ti,.tm ⟨.s,true,AG⟩,.tl AL,.tl AD]⟩]
def n10:An:=.sq (.nd) (.sq (.nd) (.jn [0] [] [(0,⟨[],[(1000000,.bx 53 [.i .i64,.i .i64,.i .i64,.b,.pt 1000001 0,.b,.mp 300500,.i .i64,.fz .u AD,.i .u32,.b,.i .i64]),(1000001,.bx 59 [.mp 1000003]),(1000002,.bx 3000000 []),(1000003,.mp ⟨.s,true,AG⟩),(300500,.bx 3000000 [])]⟩),(0,⟨[],[(1000000,.bx 53 [.i .i64,.i .i64,.i .i64,.b,.pt 1000001 0,.b,.mp 1000002,.i .i64,.fz .u AD,.i .u32,.b,.i .i64]),(1000001,.bx 59 [.mp 1000003]),(1000002,.bx 3000000 []),(1000003,.mp ⟨.s,true,AG⟩)]⟩),(0,⟨[],[(1000000,.bx 53 [.i .i64,.i .i64,.i .i64,.b,.pt 1000001 0,.b,.mp 1000002,.i .i64,.fz .u AD,.i .u32,.b,.i .i64]),(1000001,.bx 59 [.mp 1000003]),(1000002,.bx 3000000 [.i .i64,.pt 300520 0]),(1000003,.mp ⟨.s,true,AG⟩),(300520,.bx 89 [.sl .u 300521,.fz .u AL]),(300521,.ar 91 AD)]⟩)] [[.ti,.ti,.ti,.tb,.tb,.ti,.tl AD,.ti,.tb,.ti,.tm ⟨.s,true,AG⟩],[.ti,.ti,.ti,.tb,.tb,.ti,.tl AD,.ti,.tb,.ti,.tm ⟨.s,true,AG⟩],[.ti,.ti,.ti,.tb,.tb,.ti,.tl AD,.ti,.tb,.ti,.ti,.tm ⟨.s,true,AG⟩,.tl AL,.tl AD]] (.nd) (.nd)))
theorem e10 (k:Nat)(y:Tup iT):EX Tryd.f10 A10 iT [] R10 n10 [C17 k] k y=Vs k y.1 y.2.1 y.2.2.1 y.2.2.2.1 y.2.2.2.2.1 y.2.2.2.2.2.1 y.2.2.2.2.2.2.1 y.2.2.2.2.2.2.2.1 y.2.2.2.2.2.2.2.2.1 y.2.2.2.2.2.2.2.2.2.1 y.2.2.2.2.2.2.2.2.2.2.1 y.2.2.2.2.2.2.2.2.2.2.2.1 y.2.2.2.2.2.2.2.2.2.2.2.2.1 y.2.2.2.2.2.2.2.2.2.2.2.2.2.1 y.2.2.2.2.2.2.2.2.2.2.2.2.2.2.1 y.2.2.2.2.2.2.2.2.2.2.2.2.2.2.2.1 y.2.2.2.2.2.2.2.2.2.2.2.2.2.2.2.2.1 y.2.2.2.2.2.2.2.2.2.2.2.2.2.2.2.2.2.1 y.2.2.2.2.2.2.2.2.2.2.2.2.2.2.2.2.2.2.1 y.2.2.2.2.2.2.2.2.2.2.2.2.2.2.2.2.2.2.2.1 y.2.2.2.2.2.2.2.2.2.2.2.2.2.2.2.2.2.2.2.2.1 y.2.2.2.2.2.2.2.2.2.2.2.2.2.2.2.2.2.2.2.2.2.1 y.2.2.2.2.2.2.2.2.2.2.2.2.2.2.2.2.2.2.2.2.2.2.1 y.2.2.2.2.2.2.2.2.2.2.2.2.2.2.2.2.2.2.2.2.2.2.2.1 y.2.2.2.2.2.2.2.2.2.2.2.2.2.2.2.2.2.2.2.2.2.2.2.2.1 y.2.2.2.2.2.2.2.2.2.2.2.2.2.2.2.2.2.2.2.2.2.2.2.2.2.1 y.2.2.2.2.2.2.2.2.2.2.2.2.2.2.2.2.2.2.2.2.2.2.2.2.2.2.1 y.2.2.2.2.2.2.2.2.2.2.2.2.2.2.2.2.2.2.2.2.2.2.2.2.2.2.2:=by kernel_rfl
noncomputable def gV (k:Nat):Ar Tryd.prog:=CK 10 Tryd.func10 (e10 k)
noncomputable def VN (k:Nat)(x1:Int)(x2:Int)(x3:Int)(x4:Bool)(x5:Bool)(x6:Int)(x7:Ac)(x8:Int)(x9:Bool)(x10:Int)(x11:Int)(x12:Ax)(x13:Ba)(x14:Ac):Option KU :=
some (x1,x2,x3,x4,false,0,x7,x8,x9,x10)
def aP:AZ:=⟨[.pt 1000000 0],[(1000000,.bx 53 [.i .i64,.i .i64,.i .i64,.b,.pt 1000001 0,.b,.mp 1000002,.i .i64,.fz .u AD,.i .u32,.b,.i .i64]),(1000001,.bx 59 [.mp 1000003]),(1000002,.bx 3000000 [.i .i64,.pt 1000004 0]),(1000003,.mp ⟨.s,true,AG⟩),(1000004,.bx 89 [.sl .u 1000005,.fz .u AL]),(1000005,.ar 91 AD)]⟩
def YE:List Al:=[.ti,.ti,.ti,.tb,.tb,.ti,.tl AD,.ti,.tb,.ti,.ti,.tm ⟨.s,true,AG⟩,.tl AL,.tl AD]
def dY:List AY:=[⟨.tp [],[(1000000,.bx 53 [.i .i64,.i .i64,.i .i64,.b,.pt 1000001 0,.b,.mp 500000,.i .i64,.fz .u AD,.i .u32,.b,.i .i64]),(500000,.bx 3000000 [])],[.ti,.ti,.ti,.tb,.tb,.ti,.tl AD,.ti,.tb,.ti]⟩]
def cg:An:=.nd
theorem eN (k:Nat)(y:Tup YE):EX Tryd.f20 aP YE [1000001,1000002,1000003,1000004,1000005] dY cg [] k y=VN k y.1 y.2.1 y.2.2.1 y.2.2.2.1 y.2.2.2.2.1 y.2.2.2.2.2.1 y.2.2.2.2.2.2.1 y.2.2.2.2.2.2.2.1 y.2.2.2.2.2.2.2.2.1 y.2.2.2.2.2.2.2.2.2.1 y.2.2.2.2.2.2.2.2.2.2.1 y.2.2.2.2.2.2.2.2.2.2.2.1 y.2.2.2.2.2.2.2.2.2.2.2.2.1 y.2.2.2.2.2.2.2.2.2.2.2.2.2:=by kernel_rfl
noncomputable def Xa (k:Nat):Ar Tryd.prog:=CK 20 Tryd.func20 (eN k)
noncomputable def SK (k:Nat)(x1:Int)(x2:Int)(x3:Int)(x4:Bool)(x5:Bool)(x6:Int)(x7:Ac)(x8:Int)(x9:Bool)(x10:Int)(x11:Int)(x12:Ax)(x13:Ba)(x14:Ac):Option (Ax × Bu) :=
(aB k x12).bind fun y1 =>
(Xx k y1.1 y1.2).bind fun y2 =>
some (y1.2,y2)
def ak:AZ:=⟨[.pt 1000000 0],[(1000000,.bx 53 [.i .i64,.i .i64,.i .i64,.b,.pt 1000001 0,.b,.mp 1000002,.i .i64,.fz .u AD,.i .u32,.b,.i .i64]),(1000001,.bx 59 [.mp 1000003]),(1000002,.bx 3000000 [.i .i64,.pt 1000004 0]),(1000003,.mp ⟨.s,true,AG⟩),(1000004,.bx 89 [.sl .u 1000005,.fz .u AL]),(1000005,.ar 91 AD)]⟩
def Xq:List Al:=[.ti,.ti,.ti,.tb,.tb,.ti,.tl AD,.ti,.tb,.ti,.ti,.tm ⟨.s,true,AG⟩,.tl AL,.tl AD]
def bR:List AY:=[⟨.sl .u 500000,[(1000001,.bx 59 [.mp 1000003]),(1000003,.mp ⟨.s,true,AG⟩),(500000,.ar 41 AG)],[.tm ⟨.s,true,AG⟩,.tl AG]⟩]
def dg:An:=.sq (.nd) (.sq (.nd) (.sq (.mk [] [0,1,3,7,0,16,48,112,240,511,1023]) (.nd)))
theorem af (k:Nat)(y:Tup Xq):EX Tryd.f14 ak Xq [1000000,1000002,1000004,1000005] bR dg [fB k,ZW k] k y=SK k y.1 y.2.1 y.2.2.1 y.2.2.2.1 y.2.2.2.2.1 y.2.2.2.2.2.1 y.2.2.2.2.2.2.1 y.2.2.2.2.2.2.2.1 y.2.2.2.2.2.2.2.2.1 y.2.2.2.2.2.2.2.2.2.1 y.2.2.2.2.2.2.2.2.2.2.1 y.2.2.2.2.2.2.2.2.2.2.2.1 y.2.2.2.2.2.2.2.2.2.2.2.2.1 y.2.2.2.2.2.2.2.2.2.2.2.2.2:=by kernel_rfl
noncomputable def Tj (k:Nat):Ar Tryd.prog:=CK 14 Tryd.func14 (af k)
noncomputable def Rq (k:Nat)(x1:Int)(x2:Int)(x3:Int)(x4:Bool)(x5:Bool)(x6:Int)(x7:Ac)(x8:Int)(x9:Bool)(x10:Int)(x11:Int)(x12:Ax)(x13:Ba)(x14:Ac):Option Bool :=
cond x9 (
some true) (
(eV k x1 x2 x3).bind fun y1 =>
some (decide (y1 < x10)))
def aa:AZ:=⟨[.pt 1000000 0],[(1000000,.bx 53 [.i .i64,.i .i64,.i .i64,.b,.pt 1000001 0,.b,.mp 1000002,.i .i64,.fz .u AD,.i .u32,.b,.i .i64]),(1000001,.bx 59 [.mp 1000003]),(1000002,.bx 3000000 [.i .i64,.pt 1000004 0]),(1000003,.mp ⟨.s,true,AG⟩),(1000004,.bx 89 [.sl .u 1000005,.fz .u AL]),(1000005,.ar 91 AD)]⟩
def YK:List Al:=[.ti,.ti,.ti,.tb,.tb,.ti,.tl AD,.ti,.tb,.ti,.ti,.tm ⟨.s,true,AG⟩,.tl AL,.tl AD]
def aL:List AY:=[⟨.b,[],[.tb]⟩]
def aF:An:=.sq (.nd) (.sq (.mk [] [0,1,3,7,15,31,63,127,255,31,543,1567,3615,7711,16383,32767,65535]) (.nd))
theorem dT (k:Nat)(y:Tup YK):EX Tryd.f32 aa YK [1000000,1000001,1000002,1000003,1000004,1000005] aL aF [ez k] k y=Rq k y.1 y.2.1 y.2.2.1 y.2.2.2.1 y.2.2.2.2.1 y.2.2.2.2.2.1 y.2.2.2.2.2.2.1 y.2.2.2.2.2.2.2.1 y.2.2.2.2.2.2.2.2.1 y.2.2.2.2.2.2.2.2.2.1 y.2.2.2.2.2.2.2.2.2.2.1 y.2.2.2.2.2.2.2.2.2.2.2.1 y.2.2.2.2.2.2.2.2.2.2.2.2.1 y.2.2.2.2.2.2.2.2.2.2.2.2.2:=by kernel_rfl
noncomputable def Vy (k:Nat):Ar Tryd.prog:=CK 32 Tryd.func32 (dT k)
noncomputable def US (k:Nat)(x1:Bu)(y40:(Ax × Bu))(z41:(Int × Int × Int × (List ByteArray))):Option ((Int × Int × Int × (List ByteArray)) ⊕ (Int × Int × (List ByteArray))) :=
cond (decide (z41.2.2.1 < (y40.2.length:Int))) (
(((ix y40.2 z41.2.2.1).bind fun a42 =>
(y40.2[z41.2.2.1.toNat]?).bind fun a43 =>
((cond (decide (z41.2.1 < (x1.length:Int))) (
(ix x1 z41.2.1).bind fun a44 =>
some ((a44.1.toList == a43.1.toList) && ((a44.2.1 == a43.2.1) && ((a44.2.2.1.toList == a43.2.2.1.toList) && ((a44.2.2.2 == a43.2.2.2) && true))))) (
some false):Option Bool)).bind fun y45 =>
cond y45 (
some (z41.1,(IntKind.wrap .i64 (z41.2.1+1)),z41.2.2.2)) (
Bl (decide ((z41.2.2.2.length+[a43.1].length) * 16<=140737488355328)) <|
some ((mx z41.1 a43.2.2.2),z41.2.1,(z41.2.2.2 ++ [a43.1]))):Option (Int × Int × (List ByteArray)))).bind fun y46 =>
some (.inl (y46.1,y46.2.1,(IntKind.wrap .i64 (z41.2.2.1+1)),y46.2.2))) (
some (.inr (z41.1,z41.2.1,z41.2.2.2)))
noncomputable def VC (k:Nat)(x1:Bu)(y47:(Int × Int × (List ByteArray)))(z62:Int):Option (Int ⊕ (Unit ⊕ Unit)) :=
cond (decide (z62 < (x1.length:Int))) (
(ix x1 z62).bind fun a63 =>
cond (decide (a63.2.2.2<=y47.1)) (
some (.inr (.inl ()))) (
some (.inl (IntKind.wrap .i64 (z62+1))))) (
some (.inr (.inr ())))
noncomputable def YV (k:Nat)(x1:Bu)(x2:Int)(x3:Int)(x4:Int)(x5:Bool)(x6:Bool)(x7:Int)(x8:Ac)(x9:Int)(x10:Bool)(x11:Int)(x12:Int)(x13:Ax)(x14:Ba)(x15:Ac):Option ((Bool × Ax) ⊕ (Bool × Ax × (List ByteArray))) :=
(SK k x2 x3 x4 x5 x6 x7 x8 x9 x10 x11 x12 x13 x14 x15).bind fun y40 =>
(AX (US k x1 y40) k (0,0,0,([]:List ByteArray))).bind fun y47 =>
((cond (decide (y47.2.1 < (x1.length:Int))) (
some true) (
cond (decide (0 < (y47.2.2.length:Int))) (
(Rq k x2 x3 x4 x5 x6 x7 x8 x9 x10 x11 x12 y40.1 x14 x15).bind fun y51 =>
some (!y51)) (
some false)):Option Bool)).bind fun y52 =>
cond y52 (
some (.inl (false,y40.1))) (
(AX (VC k x1 y47) k 0).bind fun y64 =>
Aq (fun y65 =>
some (.inl (false,y40.1))) (fun y66 =>
some (.inr (true,y40.1,y47.2.2))) y64)
def cG:AZ:=⟨[.pt 1000000 0,.fz .u AG],[(1000000,.bx 53 [.i .i64,.i .i64,.i .i64,.b,.pt 1000001 0,.b,.mp 1000002,.i .i64,.fz .u AD,.i .u32,.b,.i .i64]),(1000001,.bx 59 [.mp 1000003]),(1000002,.bx 3000000 [.i .i64,.pt 1000004 0]),(1000003,.mp ⟨.s,true,AG⟩),(1000004,.bx 89 [.sl .u 1000005,.fz .u AL]),(1000005,.ar 91 AD)]⟩
def YS:List Al:=[.tl AG,.ti,.ti,.ti,.tb,.tb,.ti,.tl AD,.ti,.tb,.ti,.ti,.tm ⟨.s,true,AG⟩,.tl AL,.tl AD]
def dJ:List AY:=[⟨.tp [.c (.slice none 0 0),.b],[(1000001,.bx 59 [.mp 1000003]),(1000003,.mp ⟨.s,true,AG⟩)],[.tb,.tm ⟨.s,true,AG⟩]⟩,⟨.tp [.sl .u 500000,.b],[(1000001,.bx 59 [.mp 1000003]),(1000003,.mp ⟨.s,true,AG⟩),(500000,.ar 9 (.str .nil))],[.tb,.tm ⟨.s,true,AG⟩,.tl (.str .nil)]⟩]
def dE:An:=.sq (.nd) (.sq (.nd) (.sq (.nd) (.sq (.sq (.nd) (.lp [0,1,14,15] [401400,1000001,1000003] ⟨[(6,.sl .n 300500),(7,.i .u32),(8,.i .i64),(16,.i .i64)],[(300500,.ar 9 (.str .nil))]⟩ [.ti,.ti,.ti,.tl (.str .nil)] [(2,⟨[(6,.sl .n 300525),(7,.i .u32),(8,.i .i64)],[(300525,.ar 9 (.str .nil))]⟩)] [[.ti,.ti,.tl (.str .nil)]] (.sq (.nd) (.sq (.nd) (.jn [16] [] [(0,⟨[(6,.sl .n 300850),(7,.i .u32),(8,.i .i64)],[(300850,.ar 9 (.str .nil))]⟩)] [[.ti,.ti,.tl (.str .nil)]] (.sq (.nd) (.sq (.jn [6,7,8,10] [10,300500] [(0,⟨[(31,.b)],[]⟩)] [[.tb]] (.mk [] [0,0,2,7,15,31,31,127,255,31,1023,2047]) (.nd)) (.nd))) (.nd)))))) (.sq (.jn [1,6,7] [300525,1000001,1000003] [(0,⟨[(57,.b)],[]⟩)] [[.tb]] (.nd) (.nd)) (.sq (.sq (.nd) (.lp [6,7,58,59] [300525,1000001,1000003] ⟨[(60,.i .i64)],[]⟩ [.ti] [(1,⟨[(4,.c (.slice none 0 0)),(5,.lb false)],[]⟩),(4,⟨[],[]⟩)] [[],[]] (.nd))) (.nd))))))
theorem bH (k:Nat)(y:Tup YS):EX Tryd.f27 cG YS [1000000,1000002,1000004,1000005] dJ dE [Tj k,Vy k] k y=YV k y.1 y.2.1 y.2.2.1 y.2.2.2.1 y.2.2.2.2.1 y.2.2.2.2.2.1 y.2.2.2.2.2.2.1 y.2.2.2.2.2.2.2.1 y.2.2.2.2.2.2.2.2.1 y.2.2.2.2.2.2.2.2.2.1 y.2.2.2.2.2.2.2.2.2.2.1 y.2.2.2.2.2.2.2.2.2.2.2.1 y.2.2.2.2.2.2.2.2.2.2.2.2.1 y.2.2.2.2.2.2.2.2.2.2.2.2.2.1 y.2.2.2.2.2.2.2.2.2.2.2.2.2.2:=by kernel_rfl
noncomputable def eI (k:Nat):Ar Tryd.prog:=CK 27 Tryd.func27 (bH k)
noncomputable def Vq (k:Nat)(x5:Bu)(z22:(Int × Int)):Option ((Int × Int) ⊕ Int) :=
cond (decide (z22.2 < (x5.length:Int))) (
(ix x5 z22.2).bind fun a23 =>
some (.inl ((mx z22.1 a23.2.2.2),(IntKind.wrap .i64 (z22.2+1))))) (
some (.inr z22.1))
noncomputable def Xt (k:Nat)(x1:Int)(x2:Int)(x3:Int)(x4:Int)(x5:Bu)(x6:(List ByteArray))(x7:(List ByteArray))(x8:Int)(x9:Int)(x10:Int)(x11:Bool)(x12:Bool)(x13:Int)(x14:Ac)(x15:Int)(x16:Bool)(x17:Int)(x18:Int)(x19:Ax)(x20:Ba)(x21:Ac):Option (Bool × Int × Int × Int × Bool × Bool × Int × Ac × Int × Bool × Int × Int × Ax × Ba) :=
cond x12 (
some ((x1 == 7),x8,x9,x10,x11,x12,x13,x14,x15,x16,x17,x18,x19,x20)) (
cond (x1 != 0) (
some ((x1 != 7),x8,x9,x10,x11,x12,x13,x14,x15,x16,x17,x18,x19,x20)) (
(((YV k x5 x8 x9 x10 x11 true x13 x14 x15 x16 x17 x18 x19 x20 x21).bind fun y10 =>
Aq (fun y11 =>
some (y11.1,y11.2,([]:List ByteArray))) (fun y12 =>
some (y12.1,y12.2.1,y12.2.2)) y10:Option (Bool × Ax × (List ByteArray)))).bind fun y13 =>
cond y13.1 (
(Xe k y13.2.2 y13.2.1).bind fun y14 =>
some (true,x8,x9,x10,x11,true,x13,([]:List (ByteArray × Bool × ByteArray)),x15,x16,x17,x18,y14,x20)) (
cond ((x14.length:Int) == 0) (
some (false,x8,x9,x10,x11,true,x13,x14,x15,x16,x17,x18,y13.2.1,x20)) (
(AX (Vq k x5) k (0,0)).bind fun y24 =>
((cond (decide (y24<=x15)) (
some (IntKind.wrap .u32 (x15+1))) (
some y24):Option Int)).bind fun y25 =>
none))))
def cM:AZ:=⟨[.pt 1000000 0,.ag [.i .i64,.i .i64,.i .u32,.i .i64,.fz .u AG,.fz .u (.str .nil),.fz .u (.str .nil)]],[(1000000,.bx 53 [.i .i64,.i .i64,.i .i64,.b,.pt 1000001 0,.b,.mp 1000002,.i .i64,.fz .u AD,.i .u32,.b,.i .i64]),(1000001,.bx 59 [.mp 1000003]),(1000002,.bx 3000000 [.i .i64,.pt 1000004 0]),(1000003,.mp ⟨.s,true,AG⟩),(1000004,.bx 89 [.sl .u 1000005,.fz .u AL]),(1000005,.ar 91 AD)]⟩
def YU:List Al:=[.ti,.ti,.ti,.ti,.tl AG,.tl (.str .nil),.tl (.str .nil),.ti,.ti,.ti,.tb,.tb,.ti,.tl AD,.ti,.tb,.ti,.ti,.tm ⟨.s,true,AG⟩,.tl AL,.tl AD]
def bD:List AY:=[⟨.b,[(1000000,.bx 53 [.i .i64,.i .i64,.i .i64,.b,.pt 1000001 0,.b,.mp 1000002,.i .i64,.fz .u AD,.i .u32,.b,.i .i64]),(1000001,.bx 59 [.mp 1000003]),(1000002,.bx 3000000 [.i .i64,.pt 1000004 0]),(1000003,.mp ⟨.s,true,AG⟩),(1000004,.bx 89 [.sl .u 1000005,.fz .u AL])],[.tb,.ti,.ti,.ti,.tb,.tb,.ti,.tl AD,.ti,.tb,.ti,.ti,.tm ⟨.s,true,AG⟩,.tl AL]⟩]
def dG:An:=.sq (.nd) (.sq (.nd) (.sq (.nd) (.sq (.nd) (.sq (.jn [0,3] [3,1000000,1000002,1000004] [(0,⟨[(5,.sl .u 301050),(6,.b)],[(1000001,.bx 59 [.mp 1000003]),(1000003,.mp ⟨.s,true,AG⟩),(301050,.ar 9 (.str .nil))]⟩)] [[.tb,.tm ⟨.s,true,AG⟩,.tl (.str .nil)]] (.nd) (.sq (.nd) (.sq (.sq (.nd) (.sq (.fr [(5,301050)]) (.nd))) (.nd)))) (.sq (.nd) (.sq (.nd) (.sq (.sq (.nd) (.lp [0,3,52,53] [3,1000000,1000001,1000002,1000003,1000004] ⟨[(7,.i .u32),(54,.i .i64)],[]⟩ [.ti,.ti] [(2,⟨[(7,.i .u32)],[]⟩)] [[.ti]] (.nd))) (.jn [0,3] [3,1000000,1000001,1000002,1000003,1000004] [(0,⟨[(7,.i .u32)],[]⟩)] [[.ti]] (.nd) (.nd)))))))))
theorem av (k:Nat)(y:Tup YU):EX Tryd.f21 cM YU [1000005] bD dG [eI k,ZR k] k y=Xt k y.1 y.2.1 y.2.2.1 y.2.2.2.1 y.2.2.2.2.1 y.2.2.2.2.2.1 y.2.2.2.2.2.2.1 y.2.2.2.2.2.2.2.1 y.2.2.2.2.2.2.2.2.1 y.2.2.2.2.2.2.2.2.2.1 y.2.2.2.2.2.2.2.2.2.2.1 y.2.2.2.2.2.2.2.2.2.2.2.1 y.2.2.2.2.2.2.2.2.2.2.2.2.1 y.2.2.2.2.2.2.2.2.2.2.2.2.2.1 y.2.2.2.2.2.2.2.2.2.2.2.2.2.2.1 y.2.2.2.2.2.2.2.2.2.2.2.2.2.2.2.1 y.2.2.2.2.2.2.2.2.2.2.2.2.2.2.2.2.1 y.2.2.2.2.2.2.2.2.2.2.2.2.2.2.2.2.2.1 y.2.2.2.2.2.2.2.2.2.2.2.2.2.2.2.2.2.2.1 y.2.2.2.2.2.2.2.2.2.2.2.2.2.2.2.2.2.2.2.1 y.2.2.2.2.2.2.2.2.2.2.2.2.2.2.2.2.2.2.2.2:=by kernel_rfl
noncomputable def bK (k:Nat):Ar Tryd.prog:=CK 21 Tryd.func21 (av k)
noncomputable def eT (k:Nat)(x1:ByteArray):Option (Int × Int) :=
some (((Go.Lib.decodeGo x1).1:Int),((Go.Lib.decodeGo x1).2:Int))
def A88:AZ:=⟨[.s],[]⟩
def h88:List Al:=[.ts]
def R88:List AY:=[⟨.tp [.i .i32,.i .i64],[],[.ti,.ti]⟩]
noncomputable def C88 (k:Nat)(hm:Mo.m=false):Ar Tryd.prog:=⟨88,Tryd.f88,Tryd.func88,by kernel_rfl,by kernel_rfl,A88,h88,[],R88,fun y=>eT k y,fun y r h=>by
 have h2:some (((Go.Lib.decodeGo y).1:Int),((Go.Lib.decodeGo y).2:Int))=some r:=h
 cases h2
 exact LL.iU (vs:=[.string y]) rfl (fun _ _ _=>Vl) fun w hw=>(Tryd.utf8_DecodeRuneInString y w (WX (by kernel_rfl) (by kernel_rfl) hw)).mono fun e w2 g=>⟨g.1,g.2,fun g2=>by rw [hm] at g2; cases g2⟩⟩
noncomputable def HF (k:Nat)(x1:ByteArray)(z18:(Int × ByteArray × Nat)):Option ((Int × ByteArray × Nat) ⊕ ((ByteArray × Nat) ⊕ (Int × ByteArray × Nat))) :=
cond (decide (z18.2.2 < z18.2.1.size)) (
((cond (decide (12 < (IntKind.wrap .i64 (z18.1+1)))) (
some true) (
cond (decide (((Utf8.decode z18.2.1 z18.2.2).1:Int) < 33)) (
some true) (
cond (decide (127<=((Utf8.decode z18.2.1 z18.2.2).1:Int))) (
some (decide (((Utf8.decode z18.2.1 z18.2.2).1:Int)<=160))) (
some false))):Option Bool)).bind fun y19 =>
cond y19 (
some (.inr (.inl (z18.2.1,(z18.2.2+(Utf8.decode z18.2.1 z18.2.2).2))))) (
Bl (Dj (x1.size:Int) (z18.2.2:Int) (x1.size:Int)) <|
(eT k (x1.extract ((z18.2.2:Int).toNat) ((x1.size:Int).toNat))).bind fun y20 =>
((cond (((Utf8.decode z18.2.1 z18.2.2).1:Int) == 65533) (
some (y20.2 == 1)) (
some false):Option Bool)).bind fun y21 =>
cond y21 (
some (.inr (.inl (z18.2.1,(z18.2.2+(Utf8.decode z18.2.1 z18.2.2).2))))) (
some (.inl ((IntKind.wrap .i64 (z18.1+1)),z18.2.1,(z18.2.2+(Utf8.decode z18.2.1 z18.2.2).2)))))) (
some (.inr (.inr (z18.1,z18.2.1,z18.2.2))))
noncomputable def WW (k:Nat)(x1:ByteArray):Option Bool :=
(AX (HF k x1) k (0,x1,0)).bind fun y22 =>
Aq (fun y23 =>
some false) (fun y24 =>
some (decide (0 < y24.1))) y22
def A68:AZ:=⟨[.s],[]⟩
def hP:List Al:=[.ts]
def R68:List AY:=[⟨.b,[],[.tb]⟩]
def n68:An:=.sq (.nd) (.sq (.nd) (.sq (.sq (.nd) (.lp [0,9] [] ⟨[(3,.i .i64)],[(9,.si)]⟩ [.ti,.ts,.tn] [(1,⟨[(2,.lb false)],[(9,.si)]⟩),(2,⟨[(3,.i .i64)],[(9,.si)]⟩)] [[.ts,.tn],[.ti,.ts,.tn]] (.sq (.nd) (.sq (.nd) (.sq (.nd) (.sq (.nd) (.sq (.jn [3,4,5] [9] [(0,⟨[(29,.b)],[]⟩)] [[.tb]] (.nd) (.nd)) (.sq (.nd) (.jn [3] [9] [(0,⟨[(42,.b)],[]⟩)] [[.tb]] (.nd) (.nd)))))))))) (.nd)))
theorem e68 (k:Nat)(hm:Mo.m=false)(y:Tup hP):EX Tryd.f68 A68 hP [] R68 n68 [C88 k hm] k y=WW k y:=by kernel_rfl
noncomputable def gS (k:Nat)(hm:Mo.m=false):Ar Tryd.prog:=CK 68 Tryd.func68 (e68 k hm)
noncomputable def fG (k:Nat)(x1:ByteArray)(x2:Bool)(x3:ByteArray)(x4:ByteArray)(x5:Bool)(x6:ByteArray):Option Bool :=
some (x1.toList == x4.toList)
def A70:AZ:=⟨[.ag [.s,.b,.s],.pt 1000000 0],[(1000000,.bx 91 [.s,.b,.s])]⟩
def fg:List Al:=[.ts,.tb,.ts,.ts,.tb,.ts]
def R70:List AY:=[⟨.b,[],[.tb]⟩]
def n70:An:=.nd
theorem e70 (k:Nat)(y:Tup fg):EX Tryd.f70 A70 fg [1000000] R70 n70 [] k y=fG k y.1 y.2.1 y.2.2.1 y.2.2.2.1 y.2.2.2.2.1 y.2.2.2.2.2:=by kernel_rfl
noncomputable def C70 (k:Nat):Ar Tryd.prog:=CK 70 Tryd.func70 (e70 k)
noncomputable def SH (k:Nat)(x1:Ac)(x2:ByteArray)(x3:Bool)(x4:ByteArray)(z26:Int):Option (Int ⊕ (Int ⊕ Unit)) :=
cond (decide (z26 < (x1.length:Int))) (
(ix x1 z26).bind fun a27 =>
(x1[z26.toNat]?).bind fun a28 =>
(fG k a28.1 a28.2.1 a28.2.2 x2 x3 x4).bind fun y29 =>
cond y29 (
some (.inr (.inl z26))) (
some (.inl (IntKind.wrap .i64 (z26+1))))) (
some (.inr (.inr ())))
noncomputable def eU (k:Nat)(x1:Ac)(x2:ByteArray)(x3:Bool)(x4:ByteArray):Option Int :=
(AX (SH k x1 x2 x3 x4) k 0).bind fun y30 =>
Aq (fun y31 =>
some y31) (fun y32 =>
some (-1)) y30
def A69:AZ:=⟨[.sl .u 1000000,.fn 70 [.pt 1000001 0]],[(1000000,.ar 91 AD),(1000001,.bx 91 [.s,.b,.s])]⟩
def gY:List Al:=[.tl AD,.ts,.tb,.ts]
def R69:List AY:=[⟨.i .i64,[],[.ti]⟩]
def n69:An:=.sq (.nd) (.sq (.sq (.nd) (.lp [0,1,7] [] ⟨[(8,.i .i64)],[]⟩ [.ti] [(1,⟨[(4,.i .i64)],[]⟩),(2,⟨[],[]⟩)] [[.ti],[]] (.nd))) (.nd))
theorem e69 (k:Nat)(y:Tup gY):EX Tryd.f69 A69 gY [1000000,1000001] R69 n69 [C70 k] k y=eU k y.1 y.2.1 y.2.2.1 y.2.2.2:=by kernel_rfl
noncomputable def C69 (k:Nat):Ar Tryd.prog:=CK 69 Tryd.func69 (e69 k)
noncomputable def dM (k:Nat)(x1:ByteArray)(x2:Bool)(x3:ByteArray)(x4:Ba)(x5:Ac):Option (Int × Ba × Ac) :=
(WW k x1).bind fun y3 =>
cond (!y3) (
some (10,x4,x5)) (
cond (decide (48 < (x3.size:Int))) (
some (11,x4,x5)) (
(eU k x5 x1 x2 x3).bind fun y5 =>
((cond (decide (0<=y5)) (
(ix x5 y5).bind fun a9 =>
((x5[y5.toNat]?).bind fun a10=>some (x1,x2,x3)).bind fun a11 =>
some (.inl (x4,(x5.set y5.toNat a11)))) (
cond (decide (8<=(x5.length:Int))) (
some (.inr (x4,x5))) (
Bl (decide ((x5.length+[(x1,x2,x3)].length) * 40<=140737488355328)) <|
some (.inl (x4,(x5 ++ [(x1,x2,x3)]))))):Option ((Ba × Ac) ⊕ (Ba × Ac)))).bind fun y12 =>
Aq (fun y13 =>
some (0,y13.1,y13.2)) (fun y14 =>
some (12,y14.1,y14.2)) y12))
def A51:AZ:=⟨[.pt 1000000 0,.ag [.s,.b,.s]],[(1000000,.bx 89 [.sl .u 1000001,.fz .u AL]),(1000001,.ar 91 AD)]⟩
def gn:List Al:=[.ts,.tb,.ts,.tl AL,.tl AD]
def R51:List AY:=[⟨.i .i64,[(1000000,.bx 89 [.sl .u 500000,.fz .u AL]),(1000001,.gone),(500000,.ar 91 AD)],[.ti,.tl AL,.tl AD]⟩]
def n51:An:=.sq (.nd) (.sq (.nd) (.sq (.nd) (.sq (.nd) (.jn [] [] [(0,⟨[],[(1000000,.bx 89 [.sl .u 301350,.fz .u AL]),(1000001,.gone),(301350,.ar 91 AD)]⟩),(1,⟨[(4,.li .i64 12)],[(1000000,.bx 89 [.sl .u 1000001,.fz .u AL]),(1000001,.ar 91 AD)]⟩)] [[.tl AL,.tl AD],[.tl AL,.tl AD]] (.sq (.nd) (.sq (.mk [] [0,1,3,7,0,0,63,127]) (.sq (.nd) (.sq (.nd) (.mk [] [0,0,2,6,14,0,32,126,255,511,1023]))))) (.nd)))))
theorem e51 (k:Nat)(hm:Mo.m=false)(y:Tup gn):EX Tryd.f51 A51 gn [] R51 n51 [gS k hm,C69 k] k y=dM k y.1 y.2.1 y.2.2.1 y.2.2.2.1 y.2.2.2.2:=by kernel_rfl
noncomputable def gp (k:Nat)(hm:Mo.m=false):Ar Tryd.prog:=CK 51 Tryd.func51 (e51 k hm)
noncomputable def cH (k:Nat)(x1:ByteArray)(x2:ByteArray)(x3:Ba)(x4:Ac):Option (Int × Ba × Ac) :=
(dM k x1 false x2 x3 x4).bind fun y1 =>
some (y1.1,y1.2.1,y1.2.2)
def A33:AZ:=⟨[.pt 1000000 0,.s,.s],[(1000000,.bx 89 [.sl .u 1000001,.fz .u AL]),(1000001,.ar 91 AD)]⟩
def iE:List Al:=[.ts,.ts,.tl AL,.tl AD]
def R33:List AY:=[⟨.i .i64,[(1000000,.bx 89 [.sl .u 500000,.fz .u AL]),(1000001,.gone),(500000,.ar 91 AD)],[.ti,.tl AL,.tl AD]⟩]
def n33:An:=.nd
theorem e33 (k:Nat)(hm:Mo.m=false)(y:Tup iE):EX Tryd.f33 A33 iE [] R33 n33 [gp k hm] k y=cH k y.1 y.2.1 y.2.2.1 y.2.2.2:=by kernel_rfl
noncomputable def fy (k:Nat)(hm:Mo.m=false):Ar Tryd.prog:=CK 33 Tryd.func33 (e33 k hm)
noncomputable def fM (k:Nat)(x1:ByteArray)(x2:Ba)(x3:Ac):Option (Int × Ba × Ac) :=
(dM k x1 true ByteArray.empty x2 x3).bind fun y1 =>
some (y1.1,y1.2.1,y1.2.2)
def A34:AZ:=⟨[.pt 1000000 0,.s],[(1000000,.bx 89 [.sl .u 1000001,.fz .u AL]),(1000001,.ar 91 AD)]⟩
def iL:List Al:=[.ts,.tl AL,.tl AD]
def R34:List AY:=[⟨.i .i64,[(1000000,.bx 89 [.sl .u 500000,.fz .u AL]),(1000001,.gone),(500000,.ar 91 AD)],[.ti,.tl AL,.tl AD]⟩]
def n34:An:=.nd
theorem e34 (k:Nat)(hm:Mo.m=false)(y:Tup iL):EX Tryd.f34 A34 iL [] R34 n34 [gp k hm] k y=fM k y.1 y.2.1 y.2.2:=by kernel_rfl
noncomputable def gC (k:Nat)(hm:Mo.m=false):Ar Tryd.prog:=CK 34 Tryd.func34 (e34 k hm)
noncomputable def Tm (k:Nat)(y17:Bu)(z18:(Int × Int)):Option ((Int × Int) ⊕ (Unit ⊕ Int)) :=
cond (decide (z18.2 < (y17.length:Int))) (
(ix y17 z18.2).bind fun a19 =>
(y17[z18.2.toNat]?).bind fun a20 =>
cond (!a20.2.1) (
some (.inr (.inl ()))) (
some (.inl ((mx z18.1 a20.2.2.2),(IntKind.wrap .i64 (z18.2+1)))))) (
some (.inr (.inr z18.1)))
noncomputable def Tn (k:Nat)(y23:Int)(y42:(Ax × Bu))(z43:Int):Option (Int ⊕ (Unit ⊕ Unit)) :=
cond (decide (z43 < (y42.2.length:Int))) (
(ix y42.2 z43).bind fun a44 =>
(y42.2[z43.toNat]?).bind fun a45 =>
cond (decide (a45.2.2.2<=y23)) (
some (.inr (.inl ()))) (
some (.inl (IntKind.wrap .i64 (z43+1))))) (
some (.inr (.inr ())))
noncomputable def Ic (k:Nat)(x1:(List ByteArray))(x2:Int)(x3:Int)(x4:Int)(x5:Bool)(x6:Bool)(x7:Int)(x8:Ac)(x9:Int)(x10:Bool)(x11:Int)(x12:Int)(x13:Ax)(x14:Ba)(x15:Ac):Option (Bool × Ax) :=
cond ((x1.length:Int) == 0) (
some (true,x13)) (
(Xx k x1 x13).bind fun y17 =>
(AX (Tm k y17) k (0,0)).bind fun y21 =>
Aq (fun y22 =>
some (false,x13)) (fun y23 =>
(Xe k x1 x13).bind fun y25 =>
(SK k x2 x3 x4 x5 x6 x7 x8 x9 x10 x11 x12 y25 x14 x15).bind fun y42 =>
(AX (Tn k y23 y42) k 0).bind fun y46 =>
Aq (fun y47 =>
some (false,y42.1)) (fun y48 =>
(Rq k x2 x3 x4 x5 x6 x7 x8 x9 x10 x11 x12 y42.1 x14 x15).bind fun y49 =>
some (y49,y42.1)) y46) y21)
def dP:AZ:=⟨[.pt 1000000 0,.fz .u (.str .nil)],[(1000000,.bx 53 [.i .i64,.i .i64,.i .i64,.b,.pt 1000001 0,.b,.mp 1000002,.i .i64,.fz .u AD,.i .u32,.b,.i .i64]),(1000001,.bx 59 [.mp 1000003]),(1000002,.bx 3000000 [.i .i64,.pt 1000004 0]),(1000003,.mp ⟨.s,true,AG⟩),(1000004,.bx 89 [.sl .u 1000005,.fz .u AL]),(1000005,.ar 91 AD)]⟩
def Xb:List Al:=[.tl (.str .nil),.ti,.ti,.ti,.tb,.tb,.ti,.tl AD,.ti,.tb,.ti,.ti,.tm ⟨.s,true,AG⟩,.tl AL,.tl AD]
def bE:List AY:=[⟨.b,[(1000001,.bx 59 [.mp 1000003]),(1000003,.mp ⟨.s,true,AG⟩)],[.tb,.tm ⟨.s,true,AG⟩]⟩]
def dn:An:=.sq (.nd) (.sq (.nd) (.sq (.nd) (.sq (.sq (.nd) (.lp [0,1,18,19] [401800,1000001,1000003] ⟨[(5,.i .u32),(20,.i .i64)],[]⟩ [.ti,.ti] [(1,⟨[(4,.lb false)],[]⟩),(2,⟨[(5,.i .u32)],[]⟩)] [[],[.ti]] (.nd))) (.sq (.nd) (.sq (.sq (.nd) (.lp [0,5,39,40] [403900,1000001,1000003] ⟨[(41,.i .i64)],[]⟩ [.ti] [(1,⟨[(4,.lb false)],[]⟩),(4,⟨[],[]⟩)] [[],[]] (.nd))) (.nd))))))
theorem bO (k:Nat)(y:Tup Xb):EX Tryd.f23 dP Xb [1000000,1000002,1000004,1000005] bE dn [ZW k,ZR k,Tj k,Vy k] k y=Ic k y.1 y.2.1 y.2.2.1 y.2.2.2.1 y.2.2.2.2.1 y.2.2.2.2.2.1 y.2.2.2.2.2.2.1 y.2.2.2.2.2.2.2.1 y.2.2.2.2.2.2.2.2.1 y.2.2.2.2.2.2.2.2.2.1 y.2.2.2.2.2.2.2.2.2.2.1 y.2.2.2.2.2.2.2.2.2.2.2.1 y.2.2.2.2.2.2.2.2.2.2.2.2.1 y.2.2.2.2.2.2.2.2.2.2.2.2.2.1 y.2.2.2.2.2.2.2.2.2.2.2.2.2.2:=by kernel_rfl
noncomputable def Rr (k:Nat):Ar Tryd.prog:=CK 23 Tryd.func23 (bO k)
noncomputable def PL (k:Nat)(x1:ByteArray)(x2:Ac)(z21:(Int × ByteArray × ByteArray)):Option ((Int × ByteArray × ByteArray) ⊕ ((ByteArray × Bool × ByteArray) ⊕ (ByteArray × ByteArray))) :=
cond (decide (0<=z21.1)) (
(ix x2 z21.1).bind fun a22 =>
(x2[z21.1.toNat]?).bind fun a23 =>
cond (a23.1.toList == x1.toList) (
(ix x2 z21.1).bind fun a24 =>
(x2[z21.1.toNat]?).bind fun a25 =>
some (.inr (.inl (a25.1,a25.2.1,a25.2.2)))) (
some (.inl ((IntKind.wrap .i64 (z21.1 - 1)),z21.2.1,z21.2.2)))) (
some (.inr (.inr (z21.2.1,z21.2.2))))
noncomputable def cP (k:Nat)(x1:ByteArray)(x2:Ac):Option (ByteArray × Bool × ByteArray × Bool) :=
(AX (PL k x1 x2) k ((IntKind.wrap .i64 ((x2.length:Int) - 1)),ByteArray.empty,ByteArray.empty)).bind fun y26 =>
Aq (fun y27 =>
some (y27.1,y27.2.1,y27.2.2,true)) (fun y28 =>
some (ByteArray.empty,false,ByteArray.empty,false)) y26
def A66:AZ:=⟨[.sl .u 1000000,.s],[(1000000,.ar 91 AD)]⟩
def iM:List Al:=[.ts,.tl AD]
def R66:List AY:=[⟨.tp [.ag [.s,.b,.s],.b],[],[.ts,.tb,.ts,.tb]⟩]
def n66:An:=.sq (.nd) (.sq (.sq (.nd) (.lp [0,1,4] [] ⟨[(6,.i .i64)],[(4,.bx 91 [.s,.lb false,.s])]⟩ [.ti,.ts,.ts] [(1,⟨[(5,.lb true)],[(4,.bx 91 [.s,.b,.s])]⟩),(2,⟨[],[(4,.bx 91 [.s,.lb false,.s])]⟩)] [[.ts,.tb,.ts],[.ts,.ts]] (.nd))) (.nd))
theorem e66 (k:Nat)(y:Tup iM):EX Tryd.f66 A66 iM [1000000] R66 n66 [] k y=cP k y.1 y.2:=by kernel_rfl
noncomputable def gH (k:Nat):Ar Tryd.prog:=CK 66 Tryd.func66 (e66 k)
noncomputable def eP (k:Nat)(x1:ByteArray)(x2:Ba)(x3:Ac):Option (ByteArray × Bool × ByteArray × Bool) :=
(cP k x1 x3).bind fun y1 =>
some (y1.1,y1.2.1,y1.2.2.1,y1.2.2.2)
def A52:AZ:=⟨[.pt 1000000 0,.s],[(1000000,.bx 89 [.sl .u 1000001,.fz .u AL]),(1000001,.ar 91 AD)]⟩
def gN:List Al:=[.ts,.tl AL,.tl AD]
def R52:List AY:=[⟨.tp [.ag [.s,.b,.s],.b],[],[.ts,.tb,.ts,.tb]⟩]
def n52:An:=.nd
theorem e52 (k:Nat)(y:Tup gN):EX Tryd.f52 A52 gN [1000000,1000001] R52 n52 [gH k] k y=eP k y.1 y.2.1 y.2.2:=by kernel_rfl
noncomputable def gf (k:Nat):Ar Tryd.prog:=CK 52 Tryd.func52 (e52 k)
noncomputable def aG (k:Nat)(x1:(List ByteArray))(x12:Ba)(x14:Ac)(z43:(Int × Bu)):Option ((Int × Bu) ⊕ Bu) :=
cond (decide (z43.1 < (x1.length:Int))) (
(((ix x1 z43.1).bind fun a44 =>
(eP k a44 x12 x14).bind fun y45 =>
cond y45.2.2.2 (
(ix z43.2 z43.1).bind fun a46 =>
((z43.2[z43.1.toNat]?).bind fun a47=>some (a44,(!y45.2.1),y45.2.2.1,0)).bind fun a48 =>
some (z43.2.set z43.1.toNat a48)) (
some z43.2):Option Bu)).bind fun y49 =>
some (.inl ((IntKind.wrap .i64 (z43.1+1)),y49))) (
some (.inr z43.2))
noncomputable def gP (k:Nat)(x1:(List ByteArray))(x2:Int)(x3:Int)(x4:Int)(x5:Bool)(x6:Bool)(x7:Int)(x8:Ac)(x9:Int)(x10:Bool)(x11:Int)(x12:Ba)(x13:Int)(x14:Ac)(x15:Ax):Option Bu :=
(Xx k x1 x15).bind fun y2 =>
(AX (aG k x1 x12 x14) k (0,y2)).bind fun y50 =>
some y50
def A36:AZ:=⟨[.pt 1000000 0,.pt 1000001 0,.fz .u (.str .nil)],[(1000000,.bx 53 [.i .i64,.i .i64,.i .i64,.b,.pt 1000002 0,.b,.mp 1000003,.i .i64,.fz .u AD,.i .u32,.b,.i .i64]),(1000001,.bx 89 [.sl .u 1000004,.fz .u AL]),(1000002,.bx 59 [.mp 1000005]),(1000003,.bx 3000000 [.i .i64,.pt 1000001 0]),(1000004,.ar 91 AD),(1000005,.mp ⟨.s,true,AG⟩)]⟩
def iH:List Al:=[.tl (.str .nil),.ti,.ti,.ti,.tb,.tb,.ti,.tl AD,.ti,.tb,.ti,.tl AL,.ti,.tl AD,.tm ⟨.s,true,AG⟩]
def R36:List AY:=[⟨.sl .u 500000,[(500000,.ar 41 AG)],[.tl AG]⟩]
def n36:An:=.sq (.nd) (.sq (.nd) (.sq (.sq (.nd) (.lp [1,7,18,19] [] ⟨[(20,.i .i64)],[(401700,.ar 41 AG)]⟩ [.ti,.tl AG] [(2,⟨[],[(401700,.ar 41 AG)]⟩)] [[.tl AG]] (.sq (.nd) (.sq (.nd) (.jn [20] [] [(0,⟨[],[(401700,.ar 41 AG)]⟩)] [[.tl AG]] (.nd) (.nd)))))) (.nd)))
theorem e36 (k:Nat)(y:Tup iH):EX Tryd.f36 A36 iH [1000000,1000001,1000002,1000003,1000004,1000005] R36 n36 [ZW k,gf k] k y=gP k y.1 y.2.1 y.2.2.1 y.2.2.2.1 y.2.2.2.2.1 y.2.2.2.2.2.1 y.2.2.2.2.2.2.1 y.2.2.2.2.2.2.2.1 y.2.2.2.2.2.2.2.2.1 y.2.2.2.2.2.2.2.2.2.1 y.2.2.2.2.2.2.2.2.2.2.1 y.2.2.2.2.2.2.2.2.2.2.2.1 y.2.2.2.2.2.2.2.2.2.2.2.2.1 y.2.2.2.2.2.2.2.2.2.2.2.2.2.1 y.2.2.2.2.2.2.2.2.2.2.2.2.2.2:=by kernel_rfl
noncomputable def C36 (k:Nat):Ar Tryd.prog:=CK 36 Tryd.func36 (e36 k)
noncomputable def ZM (k:Nat)(x1:Bu)(x2:Bu)(z20:Int):Option (Int ⊕ (Unit ⊕ Unit)) :=
cond (decide (z20 < (x1.length:Int))) (
(ix x1 z20).bind fun a21 =>
(ix x2 z20).bind fun a22 =>
(x2[z20.toNat]?).bind fun a23 =>
cond (!((a21.1.toList == a23.1.toList) && ((a21.2.1 == a23.2.1) && ((a21.2.2.1.toList == a23.2.2.1.toList) && ((a21.2.2.2 == a23.2.2.2) && true))))) (
some (.inr (.inl ()))) (
some (.inl (IntKind.wrap .i64 (z20+1))))) (
some (.inr (.inr ())))
noncomputable def hY (k:Nat)(x1:Bu)(x2:Bu):Option Bool :=
cond ((x1.length:Int) != (x2.length:Int)) (
some false) (
(AX (ZM k x1 x2) k 0).bind fun y24 =>
Aq (fun y25 =>
some false) (fun y26 =>
some true) y24)
def A35:AZ:=⟨[.fz .u AG,.sl .u 1000000],[(1000000,.ar 41 AG)]⟩
def fp:List Al:=[.tl AG,.tl AG]
def R35:List AY:=[⟨.b,[],[.tb]⟩]
def n35:An:=.sq (.nd) (.sq (.nd) (.sq (.sq (.nd) (.lp [0,1,12] [] ⟨[(13,.i .i64)],[]⟩ [.ti] [(1,⟨[(4,.lb false)],[]⟩),(2,⟨[],[]⟩)] [[],[]] (.sq (.nd) (.sq (.nd) (.sq (.sq (.nd) (.sq (.mk [] [0,0,3,7,0,0,48,112,255]) (.nd))) (.nd)))))) (.nd)))
theorem e35 (k:Nat)(y:Tup fp):EX Tryd.f35 A35 fp [1000000] R35 n35 [] k y=hY k y.1 y.2:=by kernel_rfl
noncomputable def C35 (k:Nat):Ar Tryd.prog:=CK 35 Tryd.func35 (e35 k)
noncomputable def Tq (k:Nat)(x1:Ac)(z13:(Int × (List ByteArray))):Option ((Int × (List ByteArray)) ⊕ (List ByteArray)) :=
cond (decide (z13.1 < (x1.length:Int))) (
(ix x1 z13.1).bind fun a14 =>
(x1[z13.1.toNat]?).bind fun a15 =>
Bl (decide ((z13.2.length+[a15.1].length) * 16<=140737488355328)) <|
some (.inl ((IntKind.wrap .i64 (z13.1+1)),(z13.2 ++ [a15.1])))) (
some (.inr z13.2))
noncomputable def ec (k:Nat)(x1:Ac):Option (List ByteArray) :=
(AX (Tq k x1) k (0,([]:List ByteArray))).bind fun y16 =>
(Yi k y16).bind fun y17 =>
some y17
def A65:AZ:=⟨[.sl .u 1000000],[(1000000,.ar 91 AD)]⟩
def gW:List Al:=[.tl AD]
def R65:List AY:=[⟨.fz .u (.str .nil),[],[.tl (.str .nil)]⟩]
def n65:An:=.sq (.nd) (.sq (.nd) (.sq (.sq (.nd) (.lp [6,7] [] ⟨[(3,.sl .n 300400),(8,.i .i64)],[(300400,.ar 9 (.str .nil))]⟩ [.ti,.tl (.str .nil)] [(2,⟨[(3,.sl .n 300425)],[(300425,.ar 9 (.str .nil))]⟩)] [[.tl (.str .nil)]] (.nd))) (.sq (.fr [(1,300425)]) (.nd))))
theorem e65 (k:Nat)(y:Tup gW):EX Tryd.f65 A65 gW [1000000] R65 n65 [gj k] k y=ec k y:=by kernel_rfl
noncomputable def C65 (k:Nat):Ar Tryd.prog:=CK 65 Tryd.func65 (e65 k)
noncomputable def Vb (k:Nat)(x1:Ac)(y22:(List ByteArray))(z23:(Int × Ac)):Option ((Int × Ac) ⊕ Ac) :=
cond (decide (z23.1 < (y22.length:Int))) (
(ix y22 z23.1).bind fun a24 =>
(cP k a24 x1).bind fun y25 =>
((cond y25.2.1 (
some (y25.1,y25.2.1,(⟨#[]⟩:ByteArray))) (
some (y25.1,y25.2.1,y25.2.2.1)):Option (ByteArray × Bool × ByteArray))).bind fun y26 =>
Bl (decide ((z23.2.length+[(y26.1,y26.2.1,y26.2.2)].length) * 40<=140737488355328)) <|
some (.inl ((IntKind.wrap .i64 (z23.1+1)),(z23.2 ++ [(y26.1,y26.2.1,y26.2.2)])))) (
some (.inr z23.2))
noncomputable def eW (k:Nat)(x1:Ac):Option Ac :=
(ec k x1).bind fun y22 =>
(AX (Vb k x1 y22) k (0,([]:List (ByteArray × Bool × ByteArray)))).bind fun y27 =>
some y27
def A49:AZ:=⟨[.sl .u 1000000],[(1000000,.ar 91 AD)]⟩
def gK:List Al:=[.tl AD]
def R49:List AY:=[⟨.sl .u 500000,[(500000,.ar 91 AD)],[.tl AD]⟩]
def n49:An:=.sq (.nd) (.sq (.nd) (.sq (.sq (.nd) (.lp [0,9,10] [] ⟨[(3,.sl .n 300400),(11,.i .i64)],[(300400,.ar 91 AD)]⟩ [.ti,.tl AD] [(2,⟨[(3,.sl .n 300425)],[(300425,.ar 91 AD)]⟩)] [[.tl AD]] (.sq (.nd) (.sq (.nd) (.sq (.sq (.nd) (.sq (.nd) (.jn [3,6,11] [300400] [(0,⟨[],[(6,.bx 91 [.s,.b,.s])]⟩)] [[.ts,.tb,.ts]] (.nd) (.nd)))) (.nd)))))) (.nd)))
theorem e49 (k:Nat)(y:Tup gK):EX Tryd.f49 A49 gK [1000000] R49 n49 [C65 k,gH k] k y=eW k y:=by kernel_rfl
noncomputable def C49 (k:Nat):Ar Tryd.prog:=CK 49 Tryd.func49 (e49 k)
noncomputable def cy (k:Nat)(x1:Ba)(x2:Ac):Option Ac :=
(eW k x2).bind fun y1 =>
some y1
def A30:AZ:=⟨[.pt 1000000 0],[(1000000,.bx 89 [.sl .u 1000001,.fz .u AL]),(1000001,.ar 91 AD)]⟩
def gA:List Al:=[.tl AL,.tl AD]
def R30:List AY:=[⟨.sl .u 500000,[(500000,.ar 91 AD)],[.tl AD]⟩]
def n30:An:=.nd
theorem e30 (k:Nat)(y:Tup gA):EX Tryd.f30 A30 gA [1000000,1000001] R30 n30 [C49 k] k y=cy k y.1 y.2:=by kernel_rfl
noncomputable def iC (k:Nat):Ar Tryd.prog:=CK 30 Tryd.func30 (e30 k)
noncomputable def bC (k:Nat)(x1:ByteArray)(x2:ByteArray):Option Bool :=
(Zt k x1 x2).bind fun y2 =>
cond (decide (y2 < 0)) (
some true) (
cond (y2 == 0) (
some (Op.bytesLess x1.toList x2.toList)) (
some false))
def A86:AZ:=⟨[.s,.s],[]⟩
def ft:List Al:=[.ts,.ts]
def R86:List AY:=[⟨.b,[],[.tb]⟩]
def n86:An:=.nd
theorem e86 (k:Nat)(y:Tup ft):EX Tryd.f86 A86 ft [] R86 n86 [fk k] k y=bC k y.1 y.2:=by kernel_rfl
noncomputable def C86 (k:Nat):Ar Tryd.prog:=CK 86 Tryd.func86 (e86 k)
noncomputable def Kr (k:Nat)(x1:Ac)(z53:Int):Option (Int ⊕ (Int ⊕ Unit)) :=
cond (decide (z53 < (x1.length:Int))) (
(ix x1 z53).bind fun a54 =>
(x1[z53.toNat]?).bind fun a55 =>
(WW k a55.1).bind fun y56 =>
cond (!y56) (
some (.inr (.inl 10))) (
cond (decide (48 < (a55.2.2.size:Int))) (
some (.inr (.inl 11))) (
((cond a55.2.1 (
cond (!(a55.2.2.toList == (⟨#[]⟩:ByteArray).toList)) (
some true) (
cond (decide (0 < z53)) (
(ix x1 (IntKind.wrap .i64 (z53 - 1))).bind fun a57 =>
(x1[(IntKind.wrap .i64 (z53 - 1)).toNat]?).bind fun a58 =>
(bC k a58.1 a55.1).bind fun y59 =>
some (!y59)) (
some false))) (
cond (decide (0 < z53)) (
(ix x1 (IntKind.wrap .i64 (z53 - 1))).bind fun a60 =>
(x1[(IntKind.wrap .i64 (z53 - 1)).toNat]?).bind fun a61 =>
(bC k a61.1 a55.1).bind fun y62 =>
some (!y62)) (
some false)):Option Bool)).bind fun y63 =>
cond y63 (
some (.inr (.inl 2))) (
some (.inl (IntKind.wrap .i64 (z53+1))))))) (
some (.inr (.inr ())))
noncomputable def eY (k:Nat)(x1:Ac):Option Int :=
((cond (decide ((x1.length:Int) < 1)) (
some true) (
some (decide (8 < (x1.length:Int)))):Option Bool)).bind fun y2 =>
cond y2 (
some 12) (
(AX (Kr k x1) k 0).bind fun y64 =>
Aq (fun y65 =>
some y65) (fun y66 =>
some 0) y64)
def A59:AZ:=⟨[.sl .u 1000000],[(1000000,.ar 91 AD)]⟩
def gu:List Al:=[.tl AD]
def R59:List AY:=[⟨.i .i64,[],[.ti]⟩]
def n59:An:=.sq (.nd) (.sq (.jn [0] [] [(0,⟨[(12,.b)],[]⟩)] [[.tb]] (.nd) (.nd)) (.sq (.sq (.nd) (.lp [0,13,14] [] ⟨[(15,.i .i64)],[]⟩ [.ti] [(1,⟨[(2,.i .i64)],[]⟩),(2,⟨[],[]⟩)] [[.ti],[]] (.sq (.nd) (.sq (.nd) (.sq (.sq (.nd) (.sq (.nd) (.sq (.nd) (.sq (.nd) (.sq (.nd) (.jn [15] [] [(0,⟨[(30,.b)],[]⟩)] [[.tb]] (.mk [] [0,1,3,7,15,31,63,127,255,511,1023,2047,2047,6143,16383,32767,65535,2047,133119,524287,1048575,2097151,4194303,8388607]) (.nd))))))) (.nd)))))) (.nd)))
theorem e59 (k:Nat)(hm:Mo.m=false)(y:Tup gu):EX Tryd.f59 A59 gu [1000000] R59 n59 [gS k hm,C86 k] k y=eY k y:=by kernel_rfl
noncomputable def C59 (k:Nat)(hm:Mo.m=false):Ar Tryd.prog:=CK 59 Tryd.func59 (e59 k hm)
noncomputable def SJ (k:Nat)(z3:(Int × (List Int))):Option ((Int × (List Int)) ⊕ (Int × (List Int))) :=
cond (decide (128<=z3.1)) (
Bl (decide ((z3.2.length+[(bits .or .u8 (IntKind.wrap .u8 z3.1) 128)].length) * 1<=140737488355328)) <|
some (.inl ((z3.1.fdiv (2 ^ 7)),(z3.2 ++ [(bits .or .u8 (IntKind.wrap .u8 z3.1) 128)])))) (
some (.inr (z3.1,z3.2)))
noncomputable def bU (k:Nat)(x1:Int):Option ByteArray :=
(AX (SJ k) k (x1,([]:List Int))).bind fun y4 =>
Bl (decide ((y4.2.length+[(IntKind.wrap .u8 y4.1)].length) * 1<=140737488355328)) <|
some (strOfNums (y4.2 ++ [(IntKind.wrap .u8 y4.1)]))
def A61:AZ:=⟨[.i .u32],[]⟩
def ff:List Al:=[.ti]
def R61:List AY:=[⟨.s,[],[.ts]⟩]
def n61:An:=.sq (.nd) (.sq (.nd) (.sq (.lp [] [] ⟨[(0,.i .u32),(3,.sl .n 300300)],[(300300,.ar 5 (.int .u8 .nil))]⟩ [.ti,.tl (.int .u8 .nil)] [(2,⟨[(0,.i .u32),(3,.sl .n 300325)],[(300325,.ar 5 (.int .u8 .nil))]⟩)] [[.ti,.tl (.int .u8 .nil)]] (.nd)) (.nd)))
theorem e61 (k:Nat)(y:Tup ff):EX Tryd.f61 A61 ff [] R61 n61 [] k y=bU k y:=by kernel_rfl
noncomputable def hJ (k:Nat):Ar Tryd.prog:=CK 61 Tryd.func61 (e61 k)
noncomputable def fN (k:Nat)(x1:(List Int)):Option Unit :=
some ()
def A87:AZ:=⟨[.pt 1000000 0],[(1000000,.bx 107 [.sp 1000000,.sl .u 1000001]),(1000001,.ar 5 (.int .u8 .nil))]⟩
def h87:List Al:=[.tl (.int .u8 .nil)]
def R87:List AY:=[⟨.tp [],[],[]⟩]
noncomputable def C87 (k:Nat):Ar Tryd.prog:=⟨87,Tryd.f87,Tryd.func87,by kernel_rfl,by kernel_rfl,A87,h87,[1000000,1000001],R87,fun y=>fN k y,fun y r h=>by
 have h2:some ()=some r:=h
 cases h2
 exact LL.TC Tryd.bld_fresh Tryd.bld_used (by decide) _ _⟩
noncomputable def Zx (k:Nat)(x1:ByteArray)(x2:(List Int)):Option (Int × (List Int)) :=
(fN k x2).bind fun y2 =>
Bl (decide (x2.length+x1.size<=140737488355328)) <|
some ((x1.size:Int),(x2 ++ (Ab x1)))
def A60:AZ:=⟨[.pt 1000000 0,.s],[(1000000,.bx 107 [.sp 1000000,.sl .u 1000001]),(1000001,.ar 5 (.int .u8 .nil))]⟩
def gX:List Al:=[.ts,.tl (.int .u8 .nil)]
def R60:List AY:=[⟨.tp [.i .i64,.c (.nilIface)],[(1000000,.bx 107 [.sp 1000000,.sl .u 500000]),(1000001,.gone),(500000,.ar 5 (.int .u8 .nil))],[.ti,.tl (.int .u8 .nil)]⟩]
def n60:An:=.nd
theorem e60 (k:Nat)(y:Tup gX):EX Tryd.f60 A60 gX [] R60 n60 [C87 k] k y=Zx k y.1 y.2:=by kernel_rfl
noncomputable def C60 (k:Nat):Ar Tryd.prog:=CK 60 Tryd.func60 (e60 k)
noncomputable def Zv (k:Nat)(x1:ByteArray):Option ByteArray :=
(bU k (IntKind.wrap .u32 (x1.size:Int))).bind fun y1 =>
Bl (decide (y1.size+x1.size<=9223372036854775807)) <|
some (y1 ++ x1)
def A62:AZ:=⟨[.s],[]⟩
def gI:List Al:=[.ts]
def R62:List AY:=[⟨.s,[],[.ts]⟩]
def n62:An:=.nd
theorem e62 (k:Nat)(y:Tup gI):EX Tryd.f62 A62 gI [] R62 n62 [hJ k] k y=Zv k y:=by kernel_rfl
noncomputable def C62 (k:Nat):Ar Tryd.prog:=CK 62 Tryd.func62 (e62 k)
noncomputable def eo (k:Nat)(x1:(List Int)):Option (ByteArray × (List Int)) :=
Bl (ME x1) (some (strOfNums x1,x1))
def A63:AZ:=⟨[.pt 1000000 0],[(1000000,.bx 107 [.sp 1000000,.sl .u 1000001]),(1000001,.ar 5 (.int .u8 .nil))]⟩
def WH:List Al:=[.tl (.int .u8 .nil)]
def R63:List AY:=[⟨.s,[(1000001,.ar 2000005 (.int .u8 .nil))],[.ts,.tl (.int .u8 .nil)]⟩]
noncomputable def C63 (k:Nat):Ar Tryd.prog:=⟨63,Tryd.f63,Tryd.func63,by kernel_rfl,by kernel_rfl,A63,WH,[1000000],R63,fun y=>eo k y,fun y r h=>by
 have h2:Bl (ME y) (some (strOfNums y,y))=some r:=h
 obtain ⟨hb,h3⟩:=EZ h2
 cases h3
 exact LL.Qc (ρ:=Tryd.lays169_ren) Tryd.lays169 Tryd.Builder_Extra_169 (.inl rfl) (by decide) (by decide) hb⟩
noncomputable def Mh (k:Nat)(x1:Ac)(z56:(Int × (List Int))):Option ((Int × (List Int)) ⊕ (List Int)) :=
cond (decide (z56.1 < (x1.length:Int))) (
(((ix x1 z56.1).bind fun a57 =>
(x1[z56.1.toNat]?).bind fun a58 =>
cond a58.2.1 (
(Zv k a58.1).bind fun y59 =>
Bl (decide ((⟨#[1]⟩:ByteArray).size+y59.size<=9223372036854775807)) <|
(Zx k ((⟨#[1]⟩:ByteArray) ++ y59) z56.2).bind fun y60 =>
some y60.2) (
(Zv k a58.1).bind fun y61 =>
Bl (decide ((⟨#[0]⟩:ByteArray).size+y61.size<=9223372036854775807)) <|
(Zv k a58.2.2).bind fun y62 =>
Bl (decide (((⟨#[0]⟩:ByteArray) ++ y61).size+y62.size<=9223372036854775807)) <|
(Zx k (((⟨#[0]⟩:ByteArray) ++ y61) ++ y62) z56.2).bind fun y63 =>
some y63.2):Option (List Int))).bind fun y64 =>
some (.inl ((IntKind.wrap .i64 (z56.1+1)),y64))) (
some (.inr z56.2))
noncomputable def eX (k:Nat)(x1:Ac):Option (ByteArray × Int) :=
(eY k x1).bind fun y3 =>
cond (y3 != 0) (
some ((⟨#[]⟩:ByteArray),y3)) (
(bU k (IntKind.wrap .u32 (x1.length:Int))).bind fun y6 =>
(Zx k y6 ([]:List Int)).bind fun y7 =>
(AX (Mh k x1) k (0,y7.2)).bind fun y65 =>
(eo k y65).bind fun y66 =>
some (y66.1,0))
def A46:AZ:=⟨[.sl .u 1000000],[(1000000,.ar 91 AD)]⟩
def iV:List Al:=[.tl AD]
def R46:List AY:=[⟨.tp [.s,.i .i64],[],[.ts,.ti]⟩]
def n46:An:=.sq (.nd) (.sq (.nd) (.sq (.nd) (.sq (.nd) (.sq (.sq (.nd) (.lp [5,18,19] [] ⟨[(20,.i .i64)],[(5,.bx 107 [.sp 5,.sl .u 301000]),(301000,.ar 5 (.int .u8 .nil))]⟩ [.ti,.tl (.int .u8 .nil)] [(2,⟨[],[(5,.bx 107 [.sp 5,.sl .u 301025]),(301025,.ar 5 (.int .u8 .nil))]⟩)] [[.tl (.int .u8 .nil)]] (.sq (.nd) (.sq (.nd) (.jn [20] [] [(0,⟨[],[(5,.bx 107 [.sp 5,.sl .u 301350]),(301350,.ar 5 (.int .u8 .nil))]⟩)] [[.tl (.int .u8 .nil)]] (.sq (.nd) (.sq (.nd) (.sq (.nd) (.mk [] [0,1,3,7,0,16,55,127,255])))) (.nd)))))) (.nd)))))
theorem e46 (k:Nat)(hm:Mo.m=false)(y:Tup iV):EX Tryd.f46 A46 iV [1000000] R46 n46 [C59 k hm,hJ k,C60 k,C62 k,C63 k] k y=eX k y:=by kernel_rfl
noncomputable def C46 (k:Nat)(hm:Mo.m=false):Ar Tryd.prog:=CK 46 Tryd.func46 (e46 k hm)
noncomputable def eA (k:Nat)(x1:Int)(x2:Int)(x3:Int):Option Int :=
(YO k x1 x2 x3).bind fun y3 =>
cond (!y3) (
some 0) (
some (IntKind.wrap .i64 (x1 - 15)))
def A64:AZ:=⟨[.ag [.i .i64,.i .i64,.i .i64]],[]⟩
def gL:List Al:=[.ti,.ti,.ti]
def R64:List AY:=[⟨.i .i64,[],[.ti]⟩]
def n64:An:=.nd
theorem e64 (k:Nat)(y:Tup gL):EX Tryd.f64 A64 gL [] R64 n64 [dU k] k y=eA k y.1 y.2.1 y.2.2:=by kernel_rfl
noncomputable def C64 (k:Nat):Ar Tryd.prog:=CK 64 Tryd.func64 (e64 k)
noncomputable def ed (k:Nat)(x1:Int)(x2:Int)(x3:Int)(x4:Int):Option Int :=
(YO k x1 x2 x3).bind fun y3 =>
cond (!y3) (
some 0) (
(eA k x1 x2 x3).bind fun y4 =>
(eA k x1 x2 x3).bind fun y5 =>
Bl (y5 != 0) <|
some (IntKind.wrap .i64 ((mx (IntKind.wrap .i64 ((IntKind.wrap .i64 ((IntKind.wrap .i64 ((mn (mx x4 0) 1048576)+y4)) - 1)).tdiv y5)) 1)+1)))
def A47:AZ:=⟨[.ag [.i .i64,.i .i64,.i .i64],.i .i64],[]⟩
def gU:List Al:=[.ti,.ti,.ti,.ti]
def R47:List AY:=[⟨.i .i64,[],[.ti]⟩]
def n47:An:=.sq (.nd) (.sq (.nd) (.sq (.nd) (.sq (.mk [] [0,0,2,7,15,0,38,127,255,511,1023]) (.nd))))
theorem e47 (k:Nat)(y:Tup gU):EX Tryd.f47 A47 gU [] R47 n47 [dU k,C64 k] k y=ed k y.1 y.2.1 y.2.2.1 y.2.2.2:=by kernel_rfl
noncomputable def C47 (k:Nat):Ar Tryd.prog:=CK 47 Tryd.func47 (e47 k)
noncomputable def Zc (k:Nat)(x1:Int)(x2:Ac)(z13:(Int × Ax)):Option ((Int × Ax) ⊕ Ax) :=
cond (decide (z13.1 < (x2.length:Int))) (
(((ix x2 z13.1).bind fun a14 =>
(x2[z13.1.toNat]?).bind fun a15 =>
cond a15.2.1 (
some (Cf Lk z13.2 a15.1)) (
some (Bw Lk z13.2 a15.1 (a15.1,true,a15.2.2,x1))):Option Ax)).bind fun y16 =>
some (.inl ((IntKind.wrap .i64 (z13.1+1)),y16))) (
some (.inr z13.2))
noncomputable def fA (k:Nat)(x1:Int)(x2:Ac)(x3:Ax):Option Ax :=
(AX (Zc k x1 x2) k (0,x3)).bind fun y17 =>
some y17
def A48:AZ:=⟨[.pt 1000000 0,.i .u32,.sl .u 1000001],[(1000000,.bx 59 [.mp 1000002]),(1000001,.ar 91 AD),(1000002,.mp ⟨.s,true,AG⟩)]⟩
def gv:List Al:=[.ti,.tl AD,.tm ⟨.s,true,AG⟩]
def R48:List AY:=[⟨.tp [],[(1000002,.mp ⟨.s,true,AG⟩)],[.tm ⟨.s,true,AG⟩]⟩]
def n48:An:=.sq (.nd) (.sq (.nd) (.sq (.nd) (.lp [0,1,19,20] [] ⟨[(21,.i .i64)],[(1000002,.mp ⟨.s,true,AG⟩)]⟩ [.ti,.tm ⟨.s,true,AG⟩] [(2,⟨[],[(1000002,.mp ⟨.s,true,AG⟩)]⟩)] [[.tm ⟨.s,true,AG⟩]] (.sq (.nd) (.sq (.nd) (.jn [21] [] [(0,⟨[],[(1000002,.mp ⟨.s,true,AG⟩)]⟩)] [[.tm ⟨.s,true,AG⟩]] (.sq (.nd) (.sq (.nd) (.sq (.mk [] [0,1,3,7,0,16,63]) (.mk [] [0,1,3,7,0,16,0,64,0,256,0,1984,4095])))) (.nd)))))))
theorem e48 (k:Nat)(y:Tup gv):EX Tryd.f48 A48 gv [1000000,1000001] R48 n48 [] k y=fA k y.1 y.2.1 y.2.2:=by kernel_rfl
noncomputable def C48 (k:Nat):Ar Tryd.prog:=CK 48 Tryd.func48 (e48 k)
noncomputable def cW (k:Nat)(x1:Int)(x2:Int)(x3:Int)(x4:Int)(x5:Bool)(x6:Bool)(x7:Int)(x8:Ac)(x9:Int)(x10:Bool)(x11:Int)(x12:Ac)(x13:Int)(x14:Ax)(x15:Ba)(x16:Ac):Option Po :=
cond ((x12.length:Int) == 0) (
some ((x1 == 0),x2,x3,x4,x5,x6,x7,x8,x9,x10,x11,x14)) (
cond (decide (x1<=x9)) (
some (false,x2,x3,x4,x5,x6,x7,x8,x9,x10,x11,x14)) (
(eX k x12).bind fun y2 =>
(ed k x2 x3 x4 (y2.1.size:Int)).bind fun y4 =>
(fA k x1 x12 x14).bind fun y6 =>
some (true,x2,x3,x4,x5,x6,x7,x8,x1,x10,(IntKind.wrap .i64 (x11+y4)),y6)))
def A29:AZ:=⟨[.pt 1000000 0,.i .u32,.sl .u 1000001],[(1000000,.bx 53 [.i .i64,.i .i64,.i .i64,.b,.pt 1000002 0,.b,.mp 1000003,.i .i64,.fz .u AD,.i .u32,.b,.i .i64]),(1000001,.ar 91 AD),(1000002,.bx 59 [.mp 1000004]),(1000003,.bx 3000000 [.i .i64,.pt 1000005 0]),(1000004,.mp ⟨.s,true,AG⟩),(1000005,.bx 89 [.sl .u 1000006,.fz .u AL]),(1000006,.ar 91 AD)]⟩
def gT:List Al:=[.ti,.ti,.ti,.ti,.tb,.tb,.ti,.tl AD,.ti,.tb,.ti,.tl AD,.ti,.tm ⟨.s,true,AG⟩,.tl AL,.tl AD]
def R29:List AY:=[⟨.b,[(1000000,.bx 53 [.i .i64,.i .i64,.i .i64,.b,.pt 1000002 0,.b,.mp 1000003,.i .i64,.fz .u AD,.i .u32,.b,.i .i64]),(1000004,.mp ⟨.s,true,AG⟩)],[.tb,.ti,.ti,.ti,.tb,.tb,.ti,.tl AD,.ti,.tb,.ti,.tm ⟨.s,true,AG⟩]⟩]
def n29:An:=.sq (.nd) (.sq (.nd) (.sq (.nd) (.sq (.nd) (.sq (.mk [] [0,1,3,7,0,16,48,112,0,256,1008,2047,4095,8191,16383]) (.nd)))))
theorem e29 (k:Nat)(hm:Mo.m=false)(y:Tup gT):EX Tryd.f29 A29 gT [1000001,1000002,1000003,1000005,1000006] R29 n29 [C46 k hm,C47 k,C48 k] k y=cW k y.1 y.2.1 y.2.2.1 y.2.2.2.1 y.2.2.2.2.1 y.2.2.2.2.2.1 y.2.2.2.2.2.2.1 y.2.2.2.2.2.2.2.1 y.2.2.2.2.2.2.2.2.1 y.2.2.2.2.2.2.2.2.2.1 y.2.2.2.2.2.2.2.2.2.2.1 y.2.2.2.2.2.2.2.2.2.2.2.1 y.2.2.2.2.2.2.2.2.2.2.2.2.1 y.2.2.2.2.2.2.2.2.2.2.2.2.2.1 y.2.2.2.2.2.2.2.2.2.2.2.2.2.2.1 y.2.2.2.2.2.2.2.2.2.2.2.2.2.2.2:=by kernel_rfl
noncomputable def gF (k:Nat)(hm:Mo.m=false):Ar Tryd.prog:=CK 29 Tryd.func29 (e29 k hm)
noncomputable def Zy (k:Nat)(x1:Int)(x2:Int)(x3:ByteArray)(x4:ByteArray)(x5:(List ByteArray))(x6:Int)(x7:(List Int))(x8:Int)(x9:Int)(x10:Int)(x11:Int)(x12:Int)(x13:Int)(x14:Int)(x15:Bu)(x16:(List ByteArray))(x17:(List ByteArray))(x18:Int)(x19:Int)(x20:Int)(x21:Bool)(x22:Bool)(x23:Int)(x24:Ac)(x25:Int)(x26:Bool)(x27:Int)(x28:Ba)(x29:Int)(x30:Ac)(x31:Ax):Option ((Bool × Int × Int × Int × Bool × Bool × Int × Ac × Int × Bool × Int × Ba × Int × Ax × Ac) ⊕ (Bool × Int × Int × Int × Bool × Bool × Int × Ac × Int × Bool × Int × Ba × Ac × Ax)) :=
cond (x1 == 2) (
(cH k x3 x4 x28 x30).bind fun y6 =>
some (.inl (((y6.1 == 0) == (x11 == 0)),x18,x19,x20,x21,x22,x23,x24,x25,x26,x27,y6.2.1,x29,x31,y6.2.2))) (
cond (x1 == 3) (
(fM k x3 x28 x30).bind fun y7 =>
some (.inl (((y7.1 == 0) == (x11 == 0)),x18,x19,x20,x21,x22,x23,x24,x25,x26,x27,y7.2.1,x29,x31,y7.2.2))) (
cond (x1 == 6) (
cond (x29 == x2) (
some (.inr ((x11 == 0),x18,x19,x20,x21,x22,x23,x24,x25,x26,x27,x28,x30,x31))) (
some (.inl ((x11 == 0),x18,x19,x20,x21,x22,x23,x24,x25,x26,x27,x28,x29,x31,x30)))) (
cond (x1 == 4) (
(Ic k x17 x18 x19 x20 x21 x22 x23 x24 x25 x26 x27 x29 x31 x28 x30).bind fun y8 =>
cond y8.1 (
cond (x11 != 0) (
some (.inl (true,x18,x19,x20,x21,x22,x23,x24,x25,x26,x27,x28,x29,y8.2,x30))) (
(gP k x5 x18 x19 x20 x21 x22 x23 x24 x25 x26 x27 x28 x29 x30 y8.2).bind fun y9 =>
(hY k x15 y9).bind fun y10 =>
some (.inl (y10,x18,x19,x20,x21,x22,x23,x24,x25,x26,x27,x28,x29,y8.2,x30)))) (
some (.inl (false,x18,x19,x20,x21,x22,x23,x24,x25,x26,x27,x28,x29,y8.2,x30)))) (
((cond (x11 != 0) (
some (true,x18,x19,x20,x21,x22,x23,x24,x25,x26,x27,x31)) (
(cy k x28 x30).bind fun y13 =>
(cW k x13 x18 x19 x20 x21 x22 x23 x24 x25 x26 x27 y13 x29 x31 x28 x30).bind fun y14 =>
some (y14.1,y14.2.1,y14.2.2.1,y14.2.2.2.1,y14.2.2.2.2.1,y14.2.2.2.2.2.1,y14.2.2.2.2.2.2.1,y14.2.2.2.2.2.2.2.1,y14.2.2.2.2.2.2.2.2.1,y14.2.2.2.2.2.2.2.2.2.1,y14.2.2.2.2.2.2.2.2.2.2.1,y14.2.2.2.2.2.2.2.2.2.2.2)):Option Po)).bind fun y15 =>
((((cond (x11 == 0) (
some true) (
some (x11 == 13)):Option Bool)).bind fun y17 =>
cond y17 (
cond (x29 == x2) (
some (.inl ())) (
some (.inr x29))) (
some (.inr x29)):Option (Unit ⊕ Int))).bind fun y18 =>
Aq (fun y19 =>
cond y15.1 (
(dz k x17 y15.2.1 y15.2.2.1 y15.2.2.2.1 y15.2.2.2.2.1 y15.2.2.2.2.2.1 y15.2.2.2.2.2.2.1 y15.2.2.2.2.2.2.2.1 y15.2.2.2.2.2.2.2.2.1 y15.2.2.2.2.2.2.2.2.2.1 y15.2.2.2.2.2.2.2.2.2.2.1 y15.2.2.2.2.2.2.2.2.2.2.2).bind fun y21 =>
some (.inr (y21.1,y15.2.1,y15.2.2.1,y15.2.2.2.1,y15.2.2.2.2.1,y15.2.2.2.2.2.1,y15.2.2.2.2.2.2.1,y15.2.2.2.2.2.2.2.1,y15.2.2.2.2.2.2.2.2.1,y15.2.2.2.2.2.2.2.2.2.1,y15.2.2.2.2.2.2.2.2.2.2.1,x28,x30,y21.2))) (
some (.inr (false,y15.2.1,y15.2.2.1,y15.2.2.2.1,y15.2.2.2.2.1,y15.2.2.2.2.2.1,y15.2.2.2.2.2.2.1,y15.2.2.2.2.2.2.2.1,y15.2.2.2.2.2.2.2.2.1,y15.2.2.2.2.2.2.2.2.2.1,y15.2.2.2.2.2.2.2.2.2.2.1,x28,x30,y15.2.2.2.2.2.2.2.2.2.2.2)))) (fun y20 =>
cond y15.1 (
(Ic k x17 y15.2.1 y15.2.2.1 y15.2.2.2.1 y15.2.2.2.2.1 y15.2.2.2.2.2.1 y15.2.2.2.2.2.2.1 y15.2.2.2.2.2.2.2.1 y15.2.2.2.2.2.2.2.2.1 y15.2.2.2.2.2.2.2.2.2.1 y15.2.2.2.2.2.2.2.2.2.2.1 y20 y15.2.2.2.2.2.2.2.2.2.2.2 x28 x30).bind fun y22 =>
some (.inl (y22.1,y15.2.1,y15.2.2.1,y15.2.2.2.1,y15.2.2.2.2.1,y15.2.2.2.2.2.1,y15.2.2.2.2.2.2.1,y15.2.2.2.2.2.2.2.1,y15.2.2.2.2.2.2.2.2.1,y15.2.2.2.2.2.2.2.2.2.1,y15.2.2.2.2.2.2.2.2.2.2.1,x28,y20,y22.2,x30))) (
some (.inl (false,y15.2.1,y15.2.2.1,y15.2.2.2.1,y15.2.2.2.2.1,y15.2.2.2.2.2.1,y15.2.2.2.2.2.2.1,y15.2.2.2.2.2.2.2.1,y15.2.2.2.2.2.2.2.2.1,y15.2.2.2.2.2.2.2.2.2.1,y15.2.2.2.2.2.2.2.2.2.2.1,x28,y20,y15.2.2.2.2.2.2.2.2.2.2.2,x30)))) y18))))
def A24:AZ:=⟨[.pt 1000000 0,.ag [.i .i64,.i .i64,.s,.s,.fz .u (.str .nil),.i .i64,.fz .u Hc,.i .i64,.i .i64,.i .i64],.ag [.i .i64,.i .i64,.i .u32,.i .i64,.fz .u AG,.fz .u (.str .nil),.fz .u (.str .nil)],.pt 1000001 0],[(1000000,.bx 53 [.i .i64,.i .i64,.i .i64,.b,.pt 1000002 0,.b,.mp 1000003,.i .i64,.fz .u AD,.i .u32,.b,.i .i64]),(1000001,.bx 89 [.sl .u 1000004,.fz .u AL]),(1000002,.bx 59 [.mp 1000005]),(1000003,.bx 3000000 [.i .i64,.pt 1000001 0]),(1000004,.ar 91 AD),(1000005,.mp ⟨.s,true,AG⟩)]⟩
def gJ:List Al:=[.ti,.ti,.ts,.ts,.tl (.str .nil),.ti,.tl Hc,.ti,.ti,.ti,.ti,.ti,.ti,.ti,.tl AG,.tl (.str .nil),.tl (.str .nil),.ti,.ti,.ti,.tb,.tb,.ti,.tl AD,.ti,.tb,.ti,.tl AL,.ti,.tl AD,.tm ⟨.s,true,AG⟩]
def R24:List AY:=[⟨.b,[(1000000,.bx 53 [.i .i64,.i .i64,.i .i64,.b,.pt 1000002 0,.b,.mp 1000003,.i .i64,.fz .u AD,.i .u32,.b,.i .i64]),(1000001,.bx 89 [.sl .u 500000,.fz .u AL]),(1000002,.bx 59 [.mp 1000005]),(1000003,.bx 3000000 [.i .i64,.pt 1000001 0]),(1000004,.gone),(1000005,.mp ⟨.s,true,AG⟩),(500000,.ar 91 AD)],[.tb,.ti,.ti,.ti,.tb,.tb,.ti,.tl AD,.ti,.tb,.ti,.tl AL,.ti,.tm ⟨.s,true,AG⟩,.tl AD]⟩,⟨.b,[(1000000,.bx 53 [.i .i64,.i .i64,.i .i64,.b,.pt 1000002 0,.b,.mp 1000003,.i .i64,.fz .u AD,.i .u32,.b,.i .i64]),(1000001,.bx 89 [.sl .u 1000004,.fz .u AL]),(1000002,.bx 59 [.mp 1000005]),(1000003,.bx 3000000 []),(1000004,.ar 91 AD),(1000005,.mp ⟨.s,true,AG⟩)],[.tb,.ti,.ti,.ti,.tb,.tb,.ti,.tl AD,.ti,.tb,.ti,.tl AL,.tl AD,.tm ⟨.s,true,AG⟩]⟩]
def n24:An:=.sq (.nd) (.sq (.sq (.nd) (.sq (.nd) (.sq (.sq (.mk [] [0,0,2,0,8,31,63,0,128,384,1023,2047]) (.nd)) (.sq (.nd) (.sq (.sq (.mk [] [0,0,2,7,15,0,32,96,255,511]) (.nd)) (.sq (.nd) (.sq (.sq (.mk [] [0,1,3,7,0,16,63]) (.nd)) (.sq (.nd) (.sq (.sq (.mk [] [0,0,2,7,15,31,63,127,255,511,1023,511,511,511,8703,31231,65535,131071,262143,524287]) (.nd)) (.nd)))))))))) (.jn [0,5,6] [5,6,1000001,1000002,1000003,1000004] [(0,⟨[(9,.b)],[(1000000,.bx 53 [.i .i64,.i .i64,.i .i64,.b,.pt 1000002 0,.b,.mp 1000003,.i .i64,.fz .u AD,.i .u32,.b,.i .i64]),(1000005,.mp ⟨.s,true,AG⟩)]⟩)] [[.tb,.ti,.ti,.ti,.tb,.tb,.ti,.tl AD,.ti,.tb,.ti,.tm ⟨.s,true,AG⟩]] (.mk [] [0,1,3,7,15,15,47,15,143,511,1023,2047]) (.jn [0,6,9] [6,1000000,1000001,1000002,1000004,1000005] [(0,⟨[],[(1000003,.bx 3000000 [])]⟩),(0,⟨[],[(1000003,.bx 3000000 [.i .i64,.pt 1000001 0])]⟩)] [[],[.ti]] (.jn [5] [5,1000003] [(0,⟨[(86,.b)],[]⟩)] [[.tb]] (.nd) (.sq (.mk [] [0,1,3,7,0,16,63]) (.nd))) (.nd))))
theorem e24 (k:Nat)(hm:Mo.m=false)(y:Tup gJ):EX Tryd.f24 A24 gJ [] R24 n24 [fy k hm,gC k hm,Rr k,C36 k,C35 k,iC k,gF k hm,fX k] k y=Zy k y.1 y.2.1 y.2.2.1 y.2.2.2.1 y.2.2.2.2.1 y.2.2.2.2.2.1 y.2.2.2.2.2.2.1 y.2.2.2.2.2.2.2.1 y.2.2.2.2.2.2.2.2.1 y.2.2.2.2.2.2.2.2.2.1 y.2.2.2.2.2.2.2.2.2.2.1 y.2.2.2.2.2.2.2.2.2.2.2.1 y.2.2.2.2.2.2.2.2.2.2.2.2.1 y.2.2.2.2.2.2.2.2.2.2.2.2.2.1 y.2.2.2.2.2.2.2.2.2.2.2.2.2.2.1 y.2.2.2.2.2.2.2.2.2.2.2.2.2.2.2.1 y.2.2.2.2.2.2.2.2.2.2.2.2.2.2.2.2.1 y.2.2.2.2.2.2.2.2.2.2.2.2.2.2.2.2.2.1 y.2.2.2.2.2.2.2.2.2.2.2.2.2.2.2.2.2.2.1 y.2.2.2.2.2.2.2.2.2.2.2.2.2.2.2.2.2.2.2.1 y.2.2.2.2.2.2.2.2.2.2.2.2.2.2.2.2.2.2.2.2.1 y.2.2.2.2.2.2.2.2.2.2.2.2.2.2.2.2.2.2.2.2.2.1 y.2.2.2.2.2.2.2.2.2.2.2.2.2.2.2.2.2.2.2.2.2.2.1 y.2.2.2.2.2.2.2.2.2.2.2.2.2.2.2.2.2.2.2.2.2.2.2.1 y.2.2.2.2.2.2.2.2.2.2.2.2.2.2.2.2.2.2.2.2.2.2.2.2.1 y.2.2.2.2.2.2.2.2.2.2.2.2.2.2.2.2.2.2.2.2.2.2.2.2.2.1 y.2.2.2.2.2.2.2.2.2.2.2.2.2.2.2.2.2.2.2.2.2.2.2.2.2.2.1 y.2.2.2.2.2.2.2.2.2.2.2.2.2.2.2.2.2.2.2.2.2.2.2.2.2.2.2.1 y.2.2.2.2.2.2.2.2.2.2.2.2.2.2.2.2.2.2.2.2.2.2.2.2.2.2.2.2.1 y.2.2.2.2.2.2.2.2.2.2.2.2.2.2.2.2.2.2.2.2.2.2.2.2.2.2.2.2.2.1 y.2.2.2.2.2.2.2.2.2.2.2.2.2.2.2.2.2.2.2.2.2.2.2.2.2.2.2.2.2.2:=by kernel_rfl
noncomputable def C24 (k:Nat)(hm:Mo.m=false):Ar Tryd.prog:=CK 24 Tryd.func24 (e24 k hm)
noncomputable def YP (k:Nat)(x1:Int)(x2:Int)(x3:ByteArray)(x4:ByteArray)(x5:(List ByteArray))(x6:Int)(x7:(List Int))(x8:Int)(x9:Int)(x10:Int)(x11:Int)(x12:Int)(x13:Int)(x14:Int)(x15:Bu)(x16:(List ByteArray))(x17:(List ByteArray))(x18:Int)(x19:Int)(x20:Int)(x21:Bool)(x22:Bool)(x23:Int)(x24:Ac)(x25:Int)(x26:Bool)(x27:Int)(x28:Int)(x29:Ax)(x30:Ba)(x31:Ac):Option ((Bool × Int × Int × Int × Bool × Bool × Int × Ac × Int × Bool × Int × Int × Ax) ⊕ LM ⊕ (Bool × Int × Int × Int × Bool × Bool × Int × Ac × Int × Bool × Int × Int × Int × Ax × Ba × Ac)) :=
cond (x1 == 1) (
cond (x11 != 0) (
some (.inl (true,x18,x19,x20,x21,x22,x23,x24,x25,x26,x27,x28,x29))) (
(((aU k).bind fun y7 =>
cond (x28 == (IntKind.wrap .i64 (x23+1))) (
some (.inl ((IntKind.wrap .i64 (x23+1)),y7.1,y7.2))) (
some (.inr (x28,(IntKind.wrap .i64 (x23+1)),y7.1,y7.2))):Option ((Int × Ba × Ac) ⊕ (Int × Int × Ba × Ac)))).bind fun y8 =>
Aq (fun y9 =>
some (.inr (.inl ((x12 == (IntKind.wrap .i64 (x23+1))),x18,x19,x20,x21,x22,(IntKind.wrap .i64 (x23+1)),x24,x25,x26,x27,y9.1,x29,y9.2.1,y9.2.2)))) (fun y10 =>
some (.inr (.inr ((x12 == (IntKind.wrap .i64 (x23+1))),x18,x19,x20,x21,x22,(IntKind.wrap .i64 (x23+1)),x24,x25,x26,x27,y10.1,y10.2.1,x29,y10.2.2.1,y10.2.2.2)))) y8)) (
cond (x1 == 8) (
cond (x11 != 0) (
some (.inl (true,x18,x19,x20,x21,x22,x23,x24,x25,x26,x27,x28,x29))) (
none)) (
((cond (x1 == 9) (
some (x11 == 0)) (
some false):Option Bool)).bind fun y11 =>
cond y11 (
none) (
(Ic k x17 x18 x19 x20 x21 x22 x23 x24 x25 x26 x27 x28 x29 x30 x31).bind fun y12 =>
some (.inl (y12.1,x18,x19,x20,x21,x22,x23,x24,x25,x26,x27,x28,y12.2)))))
def aV:AZ:=⟨[.pt 1000000 0,.ag [.i .i64,.i .i64,.s,.s,.fz .u (.str .nil),.i .i64,.fz .u Hc,.i .i64,.i .i64,.i .i64],.ag [.i .i64,.i .i64,.i .u32,.i .i64,.fz .u AG,.fz .u (.str .nil),.fz .u (.str .nil)]],[(1000000,.bx 53 [.i .i64,.i .i64,.i .i64,.b,.pt 1000001 0,.b,.mp 1000002,.i .i64,.fz .u AD,.i .u32,.b,.i .i64]),(1000001,.bx 59 [.mp 1000003]),(1000002,.bx 3000000 [.i .i64,.pt 1000004 0]),(1000003,.mp ⟨.s,true,AG⟩),(1000004,.bx 89 [.sl .u 1000005,.fz .u AL]),(1000005,.ar 91 AD)]⟩
def Xn:List Al:=[.ti,.ti,.ts,.ts,.tl (.str .nil),.ti,.tl Hc,.ti,.ti,.ti,.ti,.ti,.ti,.ti,.tl AG,.tl (.str .nil),.tl (.str .nil),.ti,.ti,.ti,.tb,.tb,.ti,.tl AD,.ti,.tb,.ti,.ti,.tm ⟨.s,true,AG⟩,.tl AL,.tl AD]
def dh:List AY:=[⟨.b,[(1000000,.bx 53 [.i .i64,.i .i64,.i .i64,.b,.pt 1000001 0,.b,.mp 1000002,.i .i64,.fz .u AD,.i .u32,.b,.i .i64]),(1000001,.bx 59 [.mp 1000003]),(1000002,.bx 3000000 [.i .i64,.pt 1000004 0]),(1000003,.mp ⟨.s,true,AG⟩)],[.tb,.ti,.ti,.ti,.tb,.tb,.ti,.tl AD,.ti,.tb,.ti,.ti,.tm ⟨.s,true,AG⟩]⟩,⟨.b,[(1000000,.bx 53 [.i .i64,.i .i64,.i .i64,.b,.pt 1000001 0,.b,.mp 1000002,.i .i64,.fz .u AD,.i .u32,.b,.i .i64]),(1000001,.bx 59 [.mp 1000003]),(1000002,.bx 3000000 [.i .i64,.pt 500000 0]),(1000003,.mp ⟨.s,true,AG⟩),(500000,.bx 89 [.sl .u 500001,.fz .u AL]),(500001,.ar 91 AD)],[.tb,.ti,.ti,.ti,.tb,.tb,.ti,.tl AD,.ti,.tb,.ti,.ti,.tm ⟨.s,true,AG⟩,.tl AL,.tl AD]⟩,⟨.b,[(1000000,.bx 53 [.i .i64,.i .i64,.i .i64,.b,.pt 1000001 0,.b,.mp 1000002,.i .i64,.fz .u AD,.i .u32,.b,.i .i64]),(1000001,.bx 59 [.mp 1000003]),(1000002,.bx 3000000 [.i .i64,.pt 1000004 0,.i .i64,.pt 500000 0]),(1000003,.mp ⟨.s,true,AG⟩),(500000,.bx 89 [.sl .u 500001,.fz .u AL]),(500001,.ar 91 AD)],[.tb,.ti,.ti,.ti,.tb,.tb,.ti,.tl AD,.ti,.tb,.ti,.ti,.ti,.tm ⟨.s,true,AG⟩,.tl AL,.tl AD]⟩]
def bB:An:=.sq (.nd) (.sq (.sq (.nd) (.sq (.sq (.nd) (.sq (.nd) (.jn [0,5] [5,1000000,1000001,1000003] [(0,⟨[],[(1000002,.bx 3000000 [.i .i64,.pt 300850 0]),(300850,.bx 89 [.sl .u 300851,.fz .u AL]),(300851,.ar 91 AD)]⟩),(0,⟨[],[(1000002,.bx 3000000 [.i .i64,.pt 1000004 0,.i .i64,.pt 300860 0]),(300860,.bx 89 [.sl .u 300861,.fz .u AL]),(300861,.ar 91 AD)]⟩)] [[.ti,.tl AL,.tl AD],[.ti,.ti,.tl AL,.tl AD]] (.mk [] [0,1,3,7,0,16,48,112,0,511]) (.sq (.mk [] [0,1,0,4,12,28,63,127]) (.nd))))) (.sq (.nd) (.sq (.sq (.mk [] [0,1,3,7,15,31,15,15,143,463,1023,2047,4095]) (.nd)) (.jn [0,4,5] [4,5,1000000,1000001,1000002,1000003] [(0,⟨[(54,.b)],[]⟩)] [[.tb]] (.nd) (.nd)))))) (.nd))
theorem bP (k:Nat)(y:Tup Xn):EX Tryd.f25 aV Xn [1000004,1000005] dh bB [eR k,Rr k] k y=YP k y.1 y.2.1 y.2.2.1 y.2.2.2.1 y.2.2.2.2.1 y.2.2.2.2.2.1 y.2.2.2.2.2.2.1 y.2.2.2.2.2.2.2.1 y.2.2.2.2.2.2.2.2.1 y.2.2.2.2.2.2.2.2.2.1 y.2.2.2.2.2.2.2.2.2.2.1 y.2.2.2.2.2.2.2.2.2.2.2.1 y.2.2.2.2.2.2.2.2.2.2.2.2.1 y.2.2.2.2.2.2.2.2.2.2.2.2.2.1 y.2.2.2.2.2.2.2.2.2.2.2.2.2.2.1 y.2.2.2.2.2.2.2.2.2.2.2.2.2.2.2.1 y.2.2.2.2.2.2.2.2.2.2.2.2.2.2.2.2.1 y.2.2.2.2.2.2.2.2.2.2.2.2.2.2.2.2.2.1 y.2.2.2.2.2.2.2.2.2.2.2.2.2.2.2.2.2.2.1 y.2.2.2.2.2.2.2.2.2.2.2.2.2.2.2.2.2.2.2.1 y.2.2.2.2.2.2.2.2.2.2.2.2.2.2.2.2.2.2.2.2.1 y.2.2.2.2.2.2.2.2.2.2.2.2.2.2.2.2.2.2.2.2.2.1 y.2.2.2.2.2.2.2.2.2.2.2.2.2.2.2.2.2.2.2.2.2.2.1 y.2.2.2.2.2.2.2.2.2.2.2.2.2.2.2.2.2.2.2.2.2.2.2.1 y.2.2.2.2.2.2.2.2.2.2.2.2.2.2.2.2.2.2.2.2.2.2.2.2.1 y.2.2.2.2.2.2.2.2.2.2.2.2.2.2.2.2.2.2.2.2.2.2.2.2.2.1 y.2.2.2.2.2.2.2.2.2.2.2.2.2.2.2.2.2.2.2.2.2.2.2.2.2.2.1 y.2.2.2.2.2.2.2.2.2.2.2.2.2.2.2.2.2.2.2.2.2.2.2.2.2.2.2.1 y.2.2.2.2.2.2.2.2.2.2.2.2.2.2.2.2.2.2.2.2.2.2.2.2.2.2.2.2.1 y.2.2.2.2.2.2.2.2.2.2.2.2.2.2.2.2.2.2.2.2.2.2.2.2.2.2.2.2.2.1 y.2.2.2.2.2.2.2.2.2.2.2.2.2.2.2.2.2.2.2.2.2.2.2.2.2.2.2.2.2.2:=by kernel_rfl
noncomputable def bw (k:Nat):Ar Tryd.prog:=CK 25 Tryd.func25 (bP k)
noncomputable def ML (k:Nat)(x1:Int)(x2:Int)(x3:ByteArray)(x4:ByteArray)(x5:(List ByteArray))(x6:Int)(x7:(List Int))(x8:Int)(x9:Int)(x10:Int)(x11:Int)(x12:Int)(x13:Int)(x14:Int)(x15:Bu)(x16:(List ByteArray))(x17:(List ByteArray))(x18:Int)(x19:Int)(x20:Int)(x21:Bool)(x22:Bool)(x23:Int)(x24:Ac)(x25:Int)(x26:Bool)(x27:Int)(x28:Int)(x29:Ax)(x30:Ba)(x31:Ac):Option ee :=
((cond (x1 == 11) (
some true) (
cond (x1 == 12) (
some true) (
some (x1 == 13))):Option Bool)).bind fun y9 =>
cond y9 (
((cond (x1 == 12) (
(VN k x18 x19 x20 x21 x22 x23 x24 x25 true x27 x28 x29 x30 x31).bind fun y10 =>
some (.inl (y10.1,y10.2.1,y10.2.2.1,y10.2.2.2.1,y10.2.2.2.2.1,y10.2.2.2.2.2.1,y10.2.2.2.2.2.2.1,y10.2.2.2.2.2.2.2.1,y10.2.2.2.2.2.2.2.2.1,y10.2.2.2.2.2.2.2.2.2))) (
some (.inr (x18,x19,x20,x21,x22,x23,x24,x25,x27))):Option (KU ⊕ (Int × Int × Int × Bool × Bool × Int × Ac × Int × Int)))).bind fun y11 =>
Aq (fun y12 =>
some (.inl (true,y12.1,y12.2.1,y12.2.2.1,y12.2.2.2.1,y12.2.2.2.2.1,y12.2.2.2.2.2.1,y12.2.2.2.2.2.2.1,y12.2.2.2.2.2.2.2.1,y12.2.2.2.2.2.2.2.2.1,y12.2.2.2.2.2.2.2.2.2,x28,x29,x30,x31))) (fun y13 =>
some (.inr (.inl (true,y13.1,y13.2.1,y13.2.2.1,y13.2.2.2.1,y13.2.2.2.2.1,y13.2.2.2.2.2.1,y13.2.2.2.2.2.2.1,y13.2.2.2.2.2.2.2.1,true,y13.2.2.2.2.2.2.2.2,x28,x29,x30,x31)))) y11) (
cond (x1 == 14) (
(Xt k x11 x12 x13 x14 x15 x16 x17 x18 x19 x20 x21 x22 x23 x24 x25 x26 x27 x28 x29 x30 x31).bind fun y14 =>
some (.inr (.inl (y14.1,y14.2.1,y14.2.2.1,y14.2.2.2.1,y14.2.2.2.2.1,y14.2.2.2.2.2.1,y14.2.2.2.2.2.2.1,y14.2.2.2.2.2.2.2.1,y14.2.2.2.2.2.2.2.2.1,y14.2.2.2.2.2.2.2.2.2.1,y14.2.2.2.2.2.2.2.2.2.2.1,y14.2.2.2.2.2.2.2.2.2.2.2.1,y14.2.2.2.2.2.2.2.2.2.2.2.2.1,y14.2.2.2.2.2.2.2.2.2.2.2.2.2,x31)))) (
((cond (decide (x1 < 1)) (
some true) (
some (decide (14 < x1))):Option Bool)).bind fun y15 =>
cond y15 (
some (.inr (.inl ((x11 == 1),x18,x19,x20,x21,x22,x23,x24,x25,x26,x27,x28,x29,x30,x31)))) (
cond (!x22) (
some (.inr (.inl ((x11 == 6),x18,x19,x20,x21,x22,x23,x24,x25,x26,x27,x28,x29,x30,x31)))) (
((cond x26 (
some (x18,x19,x20,x21,x22,x23,x24,x25,true,x27)) (
some (x18,x19,x20,x21,x22,x23,x24,x25,(x1 == 7),x27)):Option KU)).bind fun y16 =>
((cond (x11 == 6) (
some true) (
some (x11 == 7)):Option Bool)).bind fun y18 =>
cond y18 (
none) (
((cond (x1 == 2) (
some (x1 == 2)) (
cond (x1 == 3) (
some (x1 == 3)) (
cond (x1 == 4) (
some (x1 == 4)) (
cond (x1 == 5) (
some (x1 == 5)) (
some (x1 == 6))))):Option Bool)).bind fun y23 =>
cond y23 (
cond (x28 == x2) (
cond (x11 != 9) (
(Zy k x1 x2 x3 x4 x5 x6 x7 x8 x9 x10 x11 x12 x13 x14 x15 x16 x17 y16.1 y16.2.1 y16.2.2.1 y16.2.2.2.1 y16.2.2.2.2.1 y16.2.2.2.2.2.1 y16.2.2.2.2.2.2.1 y16.2.2.2.2.2.2.2.1 y16.2.2.2.2.2.2.2.2.1 y16.2.2.2.2.2.2.2.2.2 x30 x28 x31 x29).bind fun y24 =>
Aq (fun y25 =>
some (.inr (.inl (y25.1,y25.2.1,y25.2.2.1,y25.2.2.2.1,y25.2.2.2.2.1,y25.2.2.2.2.2.1,y25.2.2.2.2.2.2.1,y25.2.2.2.2.2.2.2.1,y25.2.2.2.2.2.2.2.2.1,y25.2.2.2.2.2.2.2.2.2.1,y25.2.2.2.2.2.2.2.2.2.2.1,y25.2.2.2.2.2.2.2.2.2.2.2.2.1,y25.2.2.2.2.2.2.2.2.2.2.2.2.2.1,y25.2.2.2.2.2.2.2.2.2.2.2.1,y25.2.2.2.2.2.2.2.2.2.2.2.2.2.2)))) (fun y26 =>
some (.inr (.inr (.inl (y26.1,y26.2.1,y26.2.2.1,y26.2.2.2.1,y26.2.2.2.2.1,y26.2.2.2.2.2.1,y26.2.2.2.2.2.2.1,y26.2.2.2.2.2.2.2.1,y26.2.2.2.2.2.2.2.2.1,y26.2.2.2.2.2.2.2.2.2.1,y26.2.2.2.2.2.2.2.2.2.2.1,y26.2.2.2.2.2.2.2.2.2.2.2.2.2,y26.2.2.2.2.2.2.2.2.2.2.2.1,y26.2.2.2.2.2.2.2.2.2.2.2.2.1))))) y24) (
some (.inr (.inl (false,y16.1,y16.2.1,y16.2.2.1,y16.2.2.2.1,y16.2.2.2.2.1,y16.2.2.2.2.2.1,y16.2.2.2.2.2.2.1,y16.2.2.2.2.2.2.2.1,y16.2.2.2.2.2.2.2.2.1,y16.2.2.2.2.2.2.2.2.2,x28,x29,x30,x31))))) (
some (.inr (.inl ((x11 == 9),y16.1,y16.2.1,y16.2.2.1,y16.2.2.2.1,y16.2.2.2.2.1,y16.2.2.2.2.2.1,y16.2.2.2.2.2.2.1,y16.2.2.2.2.2.2.2.1,y16.2.2.2.2.2.2.2.2.1,y16.2.2.2.2.2.2.2.2.2,x28,x29,x30,x31))))) (
(YP k x1 x2 x3 x4 x5 x6 x7 x8 x9 x10 x11 x12 x13 x14 x15 x16 x17 y16.1 y16.2.1 y16.2.2.1 y16.2.2.2.1 y16.2.2.2.2.1 y16.2.2.2.2.2.1 y16.2.2.2.2.2.2.1 y16.2.2.2.2.2.2.2.1 y16.2.2.2.2.2.2.2.2.1 y16.2.2.2.2.2.2.2.2.2 x28 x29 x30 x31).bind fun y27 =>
Aq (fun y28 =>
some (.inr (.inl (y28.1,y28.2.1,y28.2.2.1,y28.2.2.2.1,y28.2.2.2.2.1,y28.2.2.2.2.2.1,y28.2.2.2.2.2.2.1,y28.2.2.2.2.2.2.2.1,y28.2.2.2.2.2.2.2.2.1,y28.2.2.2.2.2.2.2.2.2.1,y28.2.2.2.2.2.2.2.2.2.2.1,y28.2.2.2.2.2.2.2.2.2.2.2.1,y28.2.2.2.2.2.2.2.2.2.2.2.2,x30,x31)))) (fun y29 =>
Aq (fun y30 =>
some (.inr (.inr (.inr (.inl (y30.1,y30.2.1,y30.2.2.1,y30.2.2.2.1,y30.2.2.2.2.1,y30.2.2.2.2.2.1,y30.2.2.2.2.2.2.1,y30.2.2.2.2.2.2.2.1,y30.2.2.2.2.2.2.2.2.1,y30.2.2.2.2.2.2.2.2.2.1,y30.2.2.2.2.2.2.2.2.2.2.1,y30.2.2.2.2.2.2.2.2.2.2.2.1,y30.2.2.2.2.2.2.2.2.2.2.2.2.1,x30,x31,y30.2.2.2.2.2.2.2.2.2.2.2.2.2.1,y30.2.2.2.2.2.2.2.2.2.2.2.2.2.2)))))) (fun y31 =>
some (.inr (.inr (.inr (.inr (y31.1,y31.2.1,y31.2.2.1,y31.2.2.2.1,y31.2.2.2.2.1,y31.2.2.2.2.2.1,y31.2.2.2.2.2.2.1,y31.2.2.2.2.2.2.2.1,y31.2.2.2.2.2.2.2.2.1,y31.2.2.2.2.2.2.2.2.2.1,y31.2.2.2.2.2.2.2.2.2.2.1,y31.2.2.2.2.2.2.2.2.2.2.2.1,y31.2.2.2.2.2.2.2.2.2.2.2.2.1,y31.2.2.2.2.2.2.2.2.2.2.2.2.2.1,x30,x31,y31.2.2.2.2.2.2.2.2.2.2.2.2.2.2.1,y31.2.2.2.2.2.2.2.2.2.2.2.2.2.2.2)))))) y29) y27))))))
def eF:AZ:=⟨[.pt 1000000 0,.ag [.i .i64,.i .i64,.s,.s,.fz .u (.str .nil),.i .i64,.fz .u Hc,.i .i64,.i .i64,.i .i64],.ag [.i .i64,.i .i64,.i .u32,.i .i64,.fz .u AG,.fz .u (.str .nil),.fz .u (.str .nil)]],[(1000000,.bx 53 [.i .i64,.i .i64,.i .i64,.b,.pt 1000001 0,.b,.mp 1000002,.i .i64,.fz .u AD,.i .u32,.b,.i .i64]),(1000001,.bx 59 [.mp 1000003]),(1000002,.bx 3000000 [.i .i64,.pt 1000004 0]),(1000003,.mp ⟨.s,true,AG⟩),(1000004,.bx 89 [.sl .u 1000005,.fz .u AL]),(1000005,.ar 91 AD)]⟩
def Xo:List Al:=[.ti,.ti,.ts,.ts,.tl (.str .nil),.ti,.tl Hc,.ti,.ti,.ti,.ti,.ti,.ti,.ti,.tl AG,.tl (.str .nil),.tl (.str .nil),.ti,.ti,.ti,.tb,.tb,.ti,.tl AD,.ti,.tb,.ti,.ti,.tm ⟨.s,true,AG⟩,.tl AL,.tl AD]
def dH:List AY:=[⟨.b,[(1000000,.bx 53 [.i .i64,.i .i64,.i .i64,.b,.pt 1000001 0,.b,.mp 500000,.i .i64,.fz .u AD,.i .u32,.b,.i .i64]),(1000001,.bx 59 [.mp 1000003]),(1000002,.bx 3000000 [.i .i64,.pt 1000004 0]),(1000003,.mp ⟨.s,true,AG⟩),(1000004,.bx 89 [.sl .u 1000005,.fz .u AL]),(1000005,.ar 91 AD),(500000,.bx 3000000 [])],[.tb,.ti,.ti,.ti,.tb,.tb,.ti,.tl AD,.ti,.tb,.ti,.ti,.tm ⟨.s,true,AG⟩,.tl AL,.tl AD]⟩,⟨.b,[(1000000,.bx 53 [.i .i64,.i .i64,.i .i64,.b,.pt 1000001 0,.b,.mp 1000002,.i .i64,.fz .u AD,.i .u32,.b,.i .i64]),(1000001,.bx 59 [.mp 1000003]),(1000002,.bx 3000000 [.i .i64,.pt 1000004 0]),(1000003,.mp ⟨.s,true,AG⟩),(1000004,.bx 89 [.sl .u 500000,.fz .u AL]),(1000005,.gone),(500000,.ar 91 AD)],[.tb,.ti,.ti,.ti,.tb,.tb,.ti,.tl AD,.ti,.tb,.ti,.ti,.tm ⟨.s,true,AG⟩,.tl AL,.tl AD]⟩,⟨.b,[(1000000,.bx 53 [.i .i64,.i .i64,.i .i64,.b,.pt 1000001 0,.b,.mp 1000002,.i .i64,.fz .u AD,.i .u32,.b,.i .i64]),(1000001,.bx 59 [.mp 1000003]),(1000002,.bx 3000000 []),(1000003,.mp ⟨.s,true,AG⟩),(1000004,.bx 89 [.sl .u 1000005,.fz .u AL]),(1000005,.ar 91 AD)],[.tb,.ti,.ti,.ti,.tb,.tb,.ti,.tl AD,.ti,.tb,.ti,.tm ⟨.s,true,AG⟩,.tl AL,.tl AD]⟩,⟨.b,[(1000000,.bx 53 [.i .i64,.i .i64,.i .i64,.b,.pt 1000001 0,.b,.mp 1000002,.i .i64,.fz .u AD,.i .u32,.b,.i .i64]),(1000001,.bx 59 [.mp 1000003]),(1000002,.bx 3000000 [.i .i64,.pt 500000 0]),(1000003,.mp ⟨.s,true,AG⟩),(1000004,.bx 89 [.sl .u 1000005,.fz .u AL]),(1000005,.ar 91 AD),(500000,.bx 89 [.sl .u 500001,.fz .u AL]),(500001,.ar 91 AD)],[.tb,.ti,.ti,.ti,.tb,.tb,.ti,.tl AD,.ti,.tb,.ti,.ti,.tm ⟨.s,true,AG⟩,.tl AL,.tl AD,.tl AL,.tl AD]⟩,⟨.b,[(1000000,.bx 53 [.i .i64,.i .i64,.i .i64,.b,.pt 1000001 0,.b,.mp 1000002,.i .i64,.fz .u AD,.i .u32,.b,.i .i64]),(1000001,.bx 59 [.mp 1000003]),(1000002,.bx 3000000 [.i .i64,.pt 1000004 0,.i .i64,.pt 500000 0]),(1000003,.mp ⟨.s,true,AG⟩),(1000004,.bx 89 [.sl .u 1000005,.fz .u AL]),(1000005,.ar 91 AD),(500000,.bx 89 [.sl .u 500001,.fz .u AL]),(500001,.ar 91 AD)],[.tb,.ti,.ti,.ti,.tb,.tb,.ti,.tl AD,.ti,.tb,.ti,.ti,.ti,.tm ⟨.s,true,AG⟩,.tl AL,.tl AD,.tl AL,.tl AD]⟩]
def eJ:An:=.sq (.nd) (.sq (.jn [0,4,5] [4,5,1000000,1000001,1000002,1000003,1000004,1000005] [(0,⟨[(10,.b)],[]⟩)] [[.tb]] (.nd) (.sq (.sq (.nd) (.jn [] [1000001,1000002,1000003,1000004,1000005] [(0,⟨[],[(1000000,.bx 53 [.i .i64,.i .i64,.i .i64,.b,.pt 1000001 0,.b,.mp 300450,.i .i64,.fz .u AD,.i .u32,.b,.i .i64]),(300450,.bx 3000000 [])]⟩),(0,⟨[],[(1000000,.bx 53 [.i .i64,.i .i64,.i .i64,.b,.pt 1000001 0,.b,.mp 1000002,.i .i64,.fz .u AD,.i .u32,.lb true,.i .i64])]⟩)] [[.ti,.ti,.ti,.tb,.tb,.ti,.tl AD,.ti,.tb,.ti],[.ti,.ti,.ti,.tb,.tb,.ti,.tl AD,.ti,.ti]] (.nd) (.nd))) (.sq (.nd) (.sq (.nd) (.jn [0,4,5] [4,5,1000000,1000001,1000002,1000003,1000004,1000005] [(0,⟨[(39,.b)],[]⟩)] [[.tb]] (.nd) (.nd)))))) (.jn [0,4,5] [4,5,1000001,1000002,1000003,1000004,1000005] [(0,⟨[],[(1000000,.bx 53 [.i .i64,.i .i64,.i .i64,.b,.pt 1000001 0,.b,.mp 1000002,.i .i64,.fz .u AD,.i .u32,.b,.i .i64])]⟩)] [[.ti,.ti,.ti,.tb,.tb,.ti,.tl AD,.ti,.tb,.ti]] (.nd) (.sq (.jn [0,4,5] [4,5,1000000,1000001,1000002,1000003,1000004,1000005] [(0,⟨[(79,.b)],[]⟩)] [[.tb]] (.nd) (.nd)) (.sq (.sq (.nd) (.jn [0,4,5] [4,5,1000000,1000001,1000002,1000003,1000004,1000005] [(0,⟨[(95,.b)],[]⟩)] [[.tb]] (.nd) (.sq (.sq (.mk [] [0,1,3,7,0,16,63,127,255,255,511,2047]) (.nd)) (.nd)))) (.nd)))))
theorem cw (k:Nat)(hm:Mo.m=false)(y:Tup Xo):EX Tryd.f17 eF Xo [] dH eJ [Xa k,bK k,C24 k hm,bw k] k y=ML k y.1 y.2.1 y.2.2.1 y.2.2.2.1 y.2.2.2.2.1 y.2.2.2.2.2.1 y.2.2.2.2.2.2.1 y.2.2.2.2.2.2.2.1 y.2.2.2.2.2.2.2.2.1 y.2.2.2.2.2.2.2.2.2.1 y.2.2.2.2.2.2.2.2.2.2.1 y.2.2.2.2.2.2.2.2.2.2.2.1 y.2.2.2.2.2.2.2.2.2.2.2.2.1 y.2.2.2.2.2.2.2.2.2.2.2.2.2.1 y.2.2.2.2.2.2.2.2.2.2.2.2.2.2.1 y.2.2.2.2.2.2.2.2.2.2.2.2.2.2.2.1 y.2.2.2.2.2.2.2.2.2.2.2.2.2.2.2.2.1 y.2.2.2.2.2.2.2.2.2.2.2.2.2.2.2.2.2.1 y.2.2.2.2.2.2.2.2.2.2.2.2.2.2.2.2.2.2.1 y.2.2.2.2.2.2.2.2.2.2.2.2.2.2.2.2.2.2.2.1 y.2.2.2.2.2.2.2.2.2.2.2.2.2.2.2.2.2.2.2.2.1 y.2.2.2.2.2.2.2.2.2.2.2.2.2.2.2.2.2.2.2.2.2.1 y.2.2.2.2.2.2.2.2.2.2.2.2.2.2.2.2.2.2.2.2.2.2.1 y.2.2.2.2.2.2.2.2.2.2.2.2.2.2.2.2.2.2.2.2.2.2.2.1 y.2.2.2.2.2.2.2.2.2.2.2.2.2.2.2.2.2.2.2.2.2.2.2.2.1 y.2.2.2.2.2.2.2.2.2.2.2.2.2.2.2.2.2.2.2.2.2.2.2.2.2.1 y.2.2.2.2.2.2.2.2.2.2.2.2.2.2.2.2.2.2.2.2.2.2.2.2.2.2.1 y.2.2.2.2.2.2.2.2.2.2.2.2.2.2.2.2.2.2.2.2.2.2.2.2.2.2.2.1 y.2.2.2.2.2.2.2.2.2.2.2.2.2.2.2.2.2.2.2.2.2.2.2.2.2.2.2.2.1 y.2.2.2.2.2.2.2.2.2.2.2.2.2.2.2.2.2.2.2.2.2.2.2.2.2.2.2.2.2.1 y.2.2.2.2.2.2.2.2.2.2.2.2.2.2.2.2.2.2.2.2.2.2.2.2.2.2.2.2.2.2:=by kernel_rfl
noncomputable def dZ (k:Nat)(hm:Mo.m=false):Ar Tryd.prog:=CK 17 Tryd.func17 (cw k hm)
noncomputable def HW (k:Nat)(x1:Int)(x2:Int)(x3:ByteArray)(x4:ByteArray)(x5:(List ByteArray))(x6:Int)(x7:(List Int))(x8:Int)(x9:Int)(x10:Int)(x11:Int)(x12:Int)(x13:Int)(x14:Int)(x15:Bu)(x16:(List ByteArray))(x17:(List ByteArray))(x18:Int)(x19:Int)(x20:Int)(x21:Bool)(x22:Bool)(x23:Int)(x24:Ac)(x25:Int)(x26:Bool)(x27:Int)(x28:Int)(x29:Ax)(x30:Ba)(x31:Ac):Option ee :=
cond x21 (
some (.inl (false,x18,x19,x20,x21,x22,x23,x24,x25,x26,x27,x28,x29,x30,x31))) (
(((ML k x1 x2 x3 x4 x5 x6 x7 x8 x9 x10 x11 x12 x13 x14 x15 x16 x17 x18 x19 x20 x21 x22 x23 x24 x25 x26 x27 x28 x29 x30 x31).bind fun y10 =>
Aq (fun y11 =>
some (.inl (y11.2.1,y11.2.2.1,y11.2.2.2.1,(!y11.1),y11.2.2.2.2.2.1,y11.2.2.2.2.2.2.1,y11.2.2.2.2.2.2.2.1,y11.2.2.2.2.2.2.2.2.1,y11.2.2.2.2.2.2.2.2.2.1,y11.2.2.2.2.2.2.2.2.2.2.1,y11.2.2.2.2.2.2.2.2.2.2.2.1,y11.2.2.2.2.2.2.2.2.2.2.2.2.1,y11.2.2.2.2.2.2.2.2.2.2.2.2.2.1,y11.2.2.2.2.2.2.2.2.2.2.2.2.2.2))) (fun y12 =>
Aq (fun y13 =>
some (.inr (.inl (y13.2.1,y13.2.2.1,y13.2.2.2.1,(!y13.1),y13.2.2.2.2.2.1,y13.2.2.2.2.2.2.1,y13.2.2.2.2.2.2.2.1,y13.2.2.2.2.2.2.2.2.1,y13.2.2.2.2.2.2.2.2.2.1,y13.2.2.2.2.2.2.2.2.2.2.1,y13.2.2.2.2.2.2.2.2.2.2.2.1,y13.2.2.2.2.2.2.2.2.2.2.2.2.1,y13.2.2.2.2.2.2.2.2.2.2.2.2.2.1,y13.2.2.2.2.2.2.2.2.2.2.2.2.2.2)))) (fun y14 =>
Aq (fun y15 =>
some (.inr (.inr (.inl (y15.2.1,y15.2.2.1,y15.2.2.2.1,(!y15.1),y15.2.2.2.2.2.1,y15.2.2.2.2.2.2.1,y15.2.2.2.2.2.2.2.1,y15.2.2.2.2.2.2.2.2.1,y15.2.2.2.2.2.2.2.2.2.1,y15.2.2.2.2.2.2.2.2.2.2.1,y15.2.2.2.2.2.2.2.2.2.2.2.1,y15.2.2.2.2.2.2.2.2.2.2.2.2.1,y15.2.2.2.2.2.2.2.2.2.2.2.2.2))))) (fun y16 =>
Aq (fun y17 =>
some (.inr (.inr (.inr (.inl (y17.2.1,y17.2.2.1,y17.2.2.2.1,(!y17.1),y17.2.2.2.2.2.1,y17.2.2.2.2.2.2.1,y17.2.2.2.2.2.2.2.1,y17.2.2.2.2.2.2.2.2.1,y17.2.2.2.2.2.2.2.2.2.1,y17.2.2.2.2.2.2.2.2.2.2.1,y17.2.2.2.2.2.2.2.2.2.2.2.1,y17.2.2.2.2.2.2.2.2.2.2.2.2.1,y17.2.2.2.2.2.2.2.2.2.2.2.2.2.1,y17.2.2.2.2.2.2.2.2.2.2.2.2.2.2.1,y17.2.2.2.2.2.2.2.2.2.2.2.2.2.2.2.1,y17.2.2.2.2.2.2.2.2.2.2.2.2.2.2.2.2)))))) (fun y18 =>
some (.inr (.inr (.inr (.inr (y18.2.1,y18.2.2.1,y18.2.2.2.1,(!y18.1),y18.2.2.2.2.2.1,y18.2.2.2.2.2.2.1,y18.2.2.2.2.2.2.2.1,y18.2.2.2.2.2.2.2.2.1,y18.2.2.2.2.2.2.2.2.2.1,y18.2.2.2.2.2.2.2.2.2.2.1,y18.2.2.2.2.2.2.2.2.2.2.2.1,y18.2.2.2.2.2.2.2.2.2.2.2.2.1,y18.2.2.2.2.2.2.2.2.2.2.2.2.2.1,y18.2.2.2.2.2.2.2.2.2.2.2.2.2.2.1,y18.2.2.2.2.2.2.2.2.2.2.2.2.2.2.2.1,y18.2.2.2.2.2.2.2.2.2.2.2.2.2.2.2.2.1,y18.2.2.2.2.2.2.2.2.2.2.2.2.2.2.2.2.2)))))) y16) y14) y12) y10:Option ax)).bind fun y19 =>
Aq (fun y20 =>
some (.inr (.inl ((!y20.2.2.2.1),y20.1,y20.2.1,y20.2.2.1,y20.2.2.2.1,y20.2.2.2.2.1,y20.2.2.2.2.2.1,y20.2.2.2.2.2.2.1,y20.2.2.2.2.2.2.2.1,y20.2.2.2.2.2.2.2.2.1,y20.2.2.2.2.2.2.2.2.2.1,y20.2.2.2.2.2.2.2.2.2.2.1,y20.2.2.2.2.2.2.2.2.2.2.2.1,y20.2.2.2.2.2.2.2.2.2.2.2.2.1,y20.2.2.2.2.2.2.2.2.2.2.2.2.2)))) (fun y21 =>
Aq (fun y22 =>
some (.inl ((!y22.2.2.2.1),y22.1,y22.2.1,y22.2.2.1,y22.2.2.2.1,y22.2.2.2.2.1,y22.2.2.2.2.2.1,y22.2.2.2.2.2.2.1,y22.2.2.2.2.2.2.2.1,y22.2.2.2.2.2.2.2.2.1,y22.2.2.2.2.2.2.2.2.2.1,y22.2.2.2.2.2.2.2.2.2.2.1,y22.2.2.2.2.2.2.2.2.2.2.2.1,y22.2.2.2.2.2.2.2.2.2.2.2.2.1,y22.2.2.2.2.2.2.2.2.2.2.2.2.2))) (fun y23 =>
Aq (fun y24 =>
some (.inr (.inr (.inl ((!y24.2.2.2.1),y24.1,y24.2.1,y24.2.2.1,y24.2.2.2.1,y24.2.2.2.2.1,y24.2.2.2.2.2.1,y24.2.2.2.2.2.2.1,y24.2.2.2.2.2.2.2.1,y24.2.2.2.2.2.2.2.2.1,y24.2.2.2.2.2.2.2.2.2.1,y24.2.2.2.2.2.2.2.2.2.2.1,y24.2.2.2.2.2.2.2.2.2.2.2.1,y24.2.2.2.2.2.2.2.2.2.2.2.2))))) (fun y25 =>
Aq (fun y26 =>
some (.inr (.inr (.inr (.inl ((!y26.2.2.2.1),y26.1,y26.2.1,y26.2.2.1,y26.2.2.2.1,y26.2.2.2.2.1,y26.2.2.2.2.2.1,y26.2.2.2.2.2.2.1,y26.2.2.2.2.2.2.2.1,y26.2.2.2.2.2.2.2.2.1,y26.2.2.2.2.2.2.2.2.2.1,y26.2.2.2.2.2.2.2.2.2.2.1,y26.2.2.2.2.2.2.2.2.2.2.2.1,y26.2.2.2.2.2.2.2.2.2.2.2.2.1,y26.2.2.2.2.2.2.2.2.2.2.2.2.2.1,y26.2.2.2.2.2.2.2.2.2.2.2.2.2.2.1,y26.2.2.2.2.2.2.2.2.2.2.2.2.2.2.2)))))) (fun y27 =>
some (.inr (.inr (.inr (.inr ((!y27.2.2.2.1),y27.1,y27.2.1,y27.2.2.1,y27.2.2.2.1,y27.2.2.2.2.1,y27.2.2.2.2.2.1,y27.2.2.2.2.2.2.1,y27.2.2.2.2.2.2.2.1,y27.2.2.2.2.2.2.2.2.1,y27.2.2.2.2.2.2.2.2.2.1,y27.2.2.2.2.2.2.2.2.2.2.1,y27.2.2.2.2.2.2.2.2.2.2.2.1,y27.2.2.2.2.2.2.2.2.2.2.2.2.1,y27.2.2.2.2.2.2.2.2.2.2.2.2.2.1,y27.2.2.2.2.2.2.2.2.2.2.2.2.2.2.1,y27.2.2.2.2.2.2.2.2.2.2.2.2.2.2.2.1,y27.2.2.2.2.2.2.2.2.2.2.2.2.2.2.2.2)))))) y25) y23) y21) y19)
def cT:AZ:=⟨[.pt 1000000 0,.ag [.i .i64,.i .i64,.s,.s,.fz .u (.str .nil),.i .i64,.fz .u Hc,.i .i64,.i .i64,.i .i64],.ag [.i .i64,.i .i64,.i .u32,.i .i64,.fz .u AG,.fz .u (.str .nil),.fz .u (.str .nil)]],[(1000000,.bx 53 [.i .i64,.i .i64,.i .i64,.b,.pt 1000001 0,.b,.mp 1000002,.i .i64,.fz .u AD,.i .u32,.b,.i .i64]),(1000001,.bx 59 [.mp 1000003]),(1000002,.bx 3000000 [.i .i64,.pt 1000004 0]),(1000003,.mp ⟨.s,true,AG⟩),(1000004,.bx 89 [.sl .u 1000005,.fz .u AL]),(1000005,.ar 91 AD)]⟩
def Xv:List Al:=[.ti,.ti,.ts,.ts,.tl (.str .nil),.ti,.tl Hc,.ti,.ti,.ti,.ti,.ti,.ti,.ti,.tl AG,.tl (.str .nil),.tl (.str .nil),.ti,.ti,.ti,.tb,.tb,.ti,.tl AD,.ti,.tb,.ti,.ti,.tm ⟨.s,true,AG⟩,.tl AL,.tl AD]
def cI:List AY:=[⟨.b,[(1000000,.bx 53 [.i .i64,.i .i64,.i .i64,.b,.pt 1000001 0,.b,.mp 1000002,.i .i64,.fz .u AD,.i .u32,.b,.i .i64]),(1000001,.bx 59 [.mp 1000003]),(1000002,.bx 3000000 [.i .i64,.pt 1000004 0]),(1000003,.mp ⟨.s,true,AG⟩),(1000004,.bx 89 [.sl .u 500000,.fz .u AL]),(1000005,.gone),(500000,.ar 91 AD)],[.tb,.ti,.ti,.ti,.tb,.tb,.ti,.tl AD,.ti,.tb,.ti,.ti,.tm ⟨.s,true,AG⟩,.tl AL,.tl AD]⟩,⟨.b,[(1000000,.bx 53 [.i .i64,.i .i64,.i .i64,.b,.pt 1000001 0,.b,.mp 500000,.i .i64,.fz .u AD,.i .u32,.b,.i .i64]),(1000001,.bx 59 [.mp 1000003]),(1000002,.bx 3000000 [.i .i64,.pt 1000004 0]),(1000003,.mp ⟨.s,true,AG⟩),(1000004,.bx 89 [.sl .u 1000005,.fz .u AL]),(1000005,.ar 91 AD),(500000,.bx 3000000 [])],[.tb,.ti,.ti,.ti,.tb,.tb,.ti,.tl AD,.ti,.tb,.ti,.ti,.tm ⟨.s,true,AG⟩,.tl AL,.tl AD]⟩,⟨.b,[(1000000,.bx 53 [.i .i64,.i .i64,.i .i64,.b,.pt 1000001 0,.b,.mp 1000002,.i .i64,.fz .u AD,.i .u32,.b,.i .i64]),(1000001,.bx 59 [.mp 1000003]),(1000002,.bx 3000000 []),(1000003,.mp ⟨.s,true,AG⟩),(1000004,.bx 89 [.sl .u 1000005,.fz .u AL]),(1000005,.ar 91 AD)],[.tb,.ti,.ti,.ti,.tb,.tb,.ti,.tl AD,.ti,.tb,.ti,.tm ⟨.s,true,AG⟩,.tl AL,.tl AD]⟩,⟨.b,[(1000000,.bx 53 [.i .i64,.i .i64,.i .i64,.b,.pt 1000001 0,.b,.mp 1000002,.i .i64,.fz .u AD,.i .u32,.b,.i .i64]),(1000001,.bx 59 [.mp 1000003]),(1000002,.bx 3000000 [.i .i64,.pt 500000 0]),(1000003,.mp ⟨.s,true,AG⟩),(1000004,.bx 89 [.sl .u 1000005,.fz .u AL]),(1000005,.ar 91 AD),(500000,.bx 89 [.sl .u 500001,.fz .u AL]),(500001,.ar 91 AD)],[.tb,.ti,.ti,.ti,.tb,.tb,.ti,.tl AD,.ti,.tb,.ti,.ti,.tm ⟨.s,true,AG⟩,.tl AL,.tl AD,.tl AL,.tl AD]⟩,⟨.b,[(1000000,.bx 53 [.i .i64,.i .i64,.i .i64,.b,.pt 1000001 0,.b,.mp 1000002,.i .i64,.fz .u AD,.i .u32,.b,.i .i64]),(1000001,.bx 59 [.mp 1000003]),(1000002,.bx 3000000 [.i .i64,.pt 1000004 0,.i .i64,.pt 500000 0]),(1000003,.mp ⟨.s,true,AG⟩),(1000004,.bx 89 [.sl .u 1000005,.fz .u AL]),(1000005,.ar 91 AD),(500000,.bx 89 [.sl .u 500001,.fz .u AL]),(500001,.ar 91 AD)],[.tb,.ti,.ti,.ti,.tb,.tb,.ti,.tl AD,.ti,.tb,.ti,.ti,.ti,.tm ⟨.s,true,AG⟩,.tl AL,.tl AD,.tl AL,.tl AD]⟩]
def aN:An:=.sq (.nd) (.sq (.nd) (.jn [0] [] [(0,⟨[],[(1000000,.bx 53 [.i .i64,.i .i64,.i .i64,.b,.pt 1000001 0,.b,.mp 300500,.i .i64,.fz .u AD,.i .u32,.b,.i .i64]),(1000001,.bx 59 [.mp 1000003]),(1000002,.bx 3000000 [.i .i64,.pt 1000004 0]),(1000003,.mp ⟨.s,true,AG⟩),(1000004,.bx 89 [.sl .u 1000005,.fz .u AL]),(1000005,.ar 91 AD),(300500,.bx 3000000 [])]⟩),(0,⟨[],[(1000000,.bx 53 [.i .i64,.i .i64,.i .i64,.b,.pt 1000001 0,.b,.mp 1000002,.i .i64,.fz .u AD,.i .u32,.b,.i .i64]),(1000001,.bx 59 [.mp 1000003]),(1000002,.bx 3000000 [.i .i64,.pt 1000004 0]),(1000003,.mp ⟨.s,true,AG⟩),(1000004,.bx 89 [.sl .u 300510,.fz .u AL]),(1000005,.gone),(300510,.ar 91 AD)]⟩),(0,⟨[],[(1000000,.bx 53 [.i .i64,.i .i64,.i .i64,.b,.pt 1000001 0,.b,.mp 1000002,.i .i64,.fz .u AD,.i .u32,.b,.i .i64]),(1000001,.bx 59 [.mp 1000003]),(1000002,.bx 3000000 []),(1000003,.mp ⟨.s,true,AG⟩),(1000004,.bx 89 [.sl .u 1000005,.fz .u AL]),(1000005,.ar 91 AD)]⟩),(0,⟨[],[(1000000,.bx 53 [.i .i64,.i .i64,.i .i64,.b,.pt 1000001 0,.b,.mp 1000002,.i .i64,.fz .u AD,.i .u32,.b,.i .i64]),(1000001,.bx 59 [.mp 1000003]),(1000002,.bx 3000000 [.i .i64,.pt 300530 0]),(1000003,.mp ⟨.s,true,AG⟩),(1000004,.bx 89 [.sl .u 1000005,.fz .u AL]),(1000005,.ar 91 AD),(300530,.bx 89 [.sl .u 300531,.fz .u AL]),(300531,.ar 91 AD)]⟩),(0,⟨[],[(1000000,.bx 53 [.i .i64,.i .i64,.i .i64,.b,.pt 1000001 0,.b,.mp 1000002,.i .i64,.fz .u AD,.i .u32,.b,.i .i64]),(1000001,.bx 59 [.mp 1000003]),(1000002,.bx 3000000 [.i .i64,.pt 1000004 0,.i .i64,.pt 300540 0]),(1000003,.mp ⟨.s,true,AG⟩),(1000004,.bx 89 [.sl .u 1000005,.fz .u AL]),(1000005,.ar 91 AD),(300540,.bx 89 [.sl .u 300541,.fz .u AL]),(300541,.ar 91 AD)]⟩)] [[.ti,.ti,.ti,.tb,.tb,.ti,.tl AD,.ti,.tb,.ti,.ti,.tm ⟨.s,true,AG⟩,.tl AL,.tl AD],[.ti,.ti,.ti,.tb,.tb,.ti,.tl AD,.ti,.tb,.ti,.ti,.tm ⟨.s,true,AG⟩,.tl AL,.tl AD],[.ti,.ti,.ti,.tb,.tb,.ti,.tl AD,.ti,.tb,.ti,.tm ⟨.s,true,AG⟩,.tl AL,.tl AD],[.ti,.ti,.ti,.tb,.tb,.ti,.tl AD,.ti,.tb,.ti,.ti,.tm ⟨.s,true,AG⟩,.tl AL,.tl AD,.tl AL,.tl AD],[.ti,.ti,.ti,.tb,.tb,.ti,.tl AD,.ti,.tb,.ti,.ti,.ti,.tm ⟨.s,true,AG⟩,.tl AL,.tl AD,.tl AL,.tl AD]] (.nd) (.nd)))
theorem bc (k:Nat)(hm:Mo.m=false)(y:Tup Xv):EX Tryd.f10 cT Xv [] cI aN [dZ k hm] k y=HW k y.1 y.2.1 y.2.2.1 y.2.2.2.1 y.2.2.2.2.1 y.2.2.2.2.2.1 y.2.2.2.2.2.2.1 y.2.2.2.2.2.2.2.1 y.2.2.2.2.2.2.2.2.1 y.2.2.2.2.2.2.2.2.2.1 y.2.2.2.2.2.2.2.2.2.2.1 y.2.2.2.2.2.2.2.2.2.2.2.1 y.2.2.2.2.2.2.2.2.2.2.2.2.1 y.2.2.2.2.2.2.2.2.2.2.2.2.2.1 y.2.2.2.2.2.2.2.2.2.2.2.2.2.2.1 y.2.2.2.2.2.2.2.2.2.2.2.2.2.2.2.1 y.2.2.2.2.2.2.2.2.2.2.2.2.2.2.2.2.1 y.2.2.2.2.2.2.2.2.2.2.2.2.2.2.2.2.2.1 y.2.2.2.2.2.2.2.2.2.2.2.2.2.2.2.2.2.2.1 y.2.2.2.2.2.2.2.2.2.2.2.2.2.2.2.2.2.2.2.1 y.2.2.2.2.2.2.2.2.2.2.2.2.2.2.2.2.2.2.2.2.1 y.2.2.2.2.2.2.2.2.2.2.2.2.2.2.2.2.2.2.2.2.2.1 y.2.2.2.2.2.2.2.2.2.2.2.2.2.2.2.2.2.2.2.2.2.2.1 y.2.2.2.2.2.2.2.2.2.2.2.2.2.2.2.2.2.2.2.2.2.2.2.1 y.2.2.2.2.2.2.2.2.2.2.2.2.2.2.2.2.2.2.2.2.2.2.2.2.1 y.2.2.2.2.2.2.2.2.2.2.2.2.2.2.2.2.2.2.2.2.2.2.2.2.2.1 y.2.2.2.2.2.2.2.2.2.2.2.2.2.2.2.2.2.2.2.2.2.2.2.2.2.2.1 y.2.2.2.2.2.2.2.2.2.2.2.2.2.2.2.2.2.2.2.2.2.2.2.2.2.2.2.1 y.2.2.2.2.2.2.2.2.2.2.2.2.2.2.2.2.2.2.2.2.2.2.2.2.2.2.2.2.1 y.2.2.2.2.2.2.2.2.2.2.2.2.2.2.2.2.2.2.2.2.2.2.2.2.2.2.2.2.2.1 y.2.2.2.2.2.2.2.2.2.2.2.2.2.2.2.2.2.2.2.2.2.2.2.2.2.2.2.2.2.2:=by kernel_rfl
noncomputable def XZ (k:Nat)(hm:Mo.m=false):Ar Tryd.prog:=CK 10 Tryd.func10 (bc k hm)
noncomputable def Xg (k:Nat)(x1:Int)(x2:Int)(x3:Int)(x4:Bool)(x5:Bool)(x6:Int)(x7:Ac)(x8:Int)(x9:Bool)(x10:Int)(x11:Int)(x12:Int)(x13:Ax)(x14:Ba)(x15:Ba)(x16:Ac)(x17:Ac):Option KU :=
some (x1,x2,x3,x4,false,0,x7,x8,x9,x10)
def cp:AZ:=⟨[.pt 1000000 0],[(1000000,.bx 53 [.i .i64,.i .i64,.i .i64,.b,.pt 1000001 0,.b,.mp 1000002,.i .i64,.fz .u AD,.i .u32,.b,.i .i64]),(1000001,.bx 59 [.mp 1000003]),(1000002,.bx 3000000 [.i .i64,.pt 1000004 0,.i .i64,.pt 1000005 0]),(1000003,.mp ⟨.s,true,AG⟩),(1000004,.bx 89 [.sl .u 1000006,.fz .u AL]),(1000005,.bx 89 [.sl .u 1000007,.fz .u AL]),(1000006,.ar 91 AD),(1000007,.ar 91 AD)]⟩
def Xh:List Al:=[.ti,.ti,.ti,.tb,.tb,.ti,.tl AD,.ti,.tb,.ti,.ti,.ti,.tm ⟨.s,true,AG⟩,.tl AL,.tl AL,.tl AD,.tl AD]
def ca:List AY:=[⟨.tp [],[(1000000,.bx 53 [.i .i64,.i .i64,.i .i64,.b,.pt 1000001 0,.b,.mp 500000,.i .i64,.fz .u AD,.i .u32,.b,.i .i64]),(500000,.bx 3000000 [])],[.ti,.ti,.ti,.tb,.tb,.ti,.tl AD,.ti,.tb,.ti]⟩]
def bW:An:=.nd
theorem da (k:Nat)(y:Tup Xh):EX Tryd.f20 cp Xh [1000001,1000002,1000003,1000004,1000005,1000006,1000007] ca bW [] k y=Xg k y.1 y.2.1 y.2.2.1 y.2.2.2.1 y.2.2.2.2.1 y.2.2.2.2.2.1 y.2.2.2.2.2.2.1 y.2.2.2.2.2.2.2.1 y.2.2.2.2.2.2.2.2.1 y.2.2.2.2.2.2.2.2.2.1 y.2.2.2.2.2.2.2.2.2.2.1 y.2.2.2.2.2.2.2.2.2.2.2.1 y.2.2.2.2.2.2.2.2.2.2.2.2.1 y.2.2.2.2.2.2.2.2.2.2.2.2.2.1 y.2.2.2.2.2.2.2.2.2.2.2.2.2.2.1 y.2.2.2.2.2.2.2.2.2.2.2.2.2.2.2.1 y.2.2.2.2.2.2.2.2.2.2.2.2.2.2.2.2:=by kernel_rfl
noncomputable def dA (k:Nat):Ar Tryd.prog:=CK 20 Tryd.func20 (da k)
noncomputable def VJ (k:Nat)(x1:Int)(x2:Int)(x3:Int)(x4:Bool)(x5:Bool)(x6:Int)(x7:Ac)(x8:Int)(x9:Bool)(x10:Int)(x11:Int)(x12:Int)(x13:Ax)(x14:Ba)(x15:Ba)(x16:Ac)(x17:Ac):Option (Ax × Bu) :=
(aB k x13).bind fun y1 =>
(Xx k y1.1 y1.2).bind fun y2 =>
some (y1.2,y2)
def bA:AZ:=⟨[.pt 1000000 0],[(1000000,.bx 53 [.i .i64,.i .i64,.i .i64,.b,.pt 1000001 0,.b,.mp 1000002,.i .i64,.fz .u AD,.i .u32,.b,.i .i64]),(1000001,.bx 59 [.mp 1000003]),(1000002,.bx 3000000 [.i .i64,.pt 1000004 0,.i .i64,.pt 1000005 0]),(1000003,.mp ⟨.s,true,AG⟩),(1000004,.bx 89 [.sl .u 1000006,.fz .u AL]),(1000005,.bx 89 [.sl .u 1000007,.fz .u AL]),(1000006,.ar 91 AD),(1000007,.ar 91 AD)]⟩
def Xf:List Al:=[.ti,.ti,.ti,.tb,.tb,.ti,.tl AD,.ti,.tb,.ti,.ti,.ti,.tm ⟨.s,true,AG⟩,.tl AL,.tl AL,.tl AD,.tl AD]
def cN:List AY:=[⟨.sl .u 500000,[(1000001,.bx 59 [.mp 1000003]),(1000003,.mp ⟨.s,true,AG⟩),(500000,.ar 41 AG)],[.tm ⟨.s,true,AG⟩,.tl AG]⟩]
def aY:An:=.sq (.nd) (.sq (.nd) (.sq (.mk [] [0,1,3,7,0,16,48,112,240,511,1023]) (.nd)))
theorem dt (k:Nat)(y:Tup Xf):EX Tryd.f14 bA Xf [1000000,1000002,1000004,1000005,1000006,1000007] cN aY [fB k,ZW k] k y=VJ k y.1 y.2.1 y.2.2.1 y.2.2.2.1 y.2.2.2.2.1 y.2.2.2.2.2.1 y.2.2.2.2.2.2.1 y.2.2.2.2.2.2.2.1 y.2.2.2.2.2.2.2.2.1 y.2.2.2.2.2.2.2.2.2.1 y.2.2.2.2.2.2.2.2.2.2.1 y.2.2.2.2.2.2.2.2.2.2.2.1 y.2.2.2.2.2.2.2.2.2.2.2.2.1 y.2.2.2.2.2.2.2.2.2.2.2.2.2.1 y.2.2.2.2.2.2.2.2.2.2.2.2.2.2.1 y.2.2.2.2.2.2.2.2.2.2.2.2.2.2.2.1 y.2.2.2.2.2.2.2.2.2.2.2.2.2.2.2.2:=by kernel_rfl
noncomputable def Yb (k:Nat):Ar Tryd.prog:=CK 14 Tryd.func14 (dt k)
noncomputable def VQ (k:Nat)(x1:Int)(x2:Int)(x3:Int)(x4:Bool)(x5:Bool)(x6:Int)(x7:Ac)(x8:Int)(x9:Bool)(x10:Int)(x11:Int)(x12:Int)(x13:Ax)(x14:Ba)(x15:Ba)(x16:Ac)(x17:Ac):Option Bool :=
cond x9 (
some true) (
(eV k x1 x2 x3).bind fun y1 =>
some (decide (y1 < x10)))
def cE:AZ:=⟨[.pt 1000000 0],[(1000000,.bx 53 [.i .i64,.i .i64,.i .i64,.b,.pt 1000001 0,.b,.mp 1000002,.i .i64,.fz .u AD,.i .u32,.b,.i .i64]),(1000001,.bx 59 [.mp 1000003]),(1000002,.bx 3000000 [.i .i64,.pt 1000004 0,.i .i64,.pt 1000005 0]),(1000003,.mp ⟨.s,true,AG⟩),(1000004,.bx 89 [.sl .u 1000006,.fz .u AL]),(1000005,.bx 89 [.sl .u 1000007,.fz .u AL]),(1000006,.ar 91 AD),(1000007,.ar 91 AD)]⟩
def YH:List Al:=[.ti,.ti,.ti,.tb,.tb,.ti,.tl AD,.ti,.tb,.ti,.ti,.ti,.tm ⟨.s,true,AG⟩,.tl AL,.tl AL,.tl AD,.tl AD]
def bo:List AY:=[⟨.b,[],[.tb]⟩]
def cC:An:=.sq (.nd) (.sq (.mk [] [0,1,3,7,15,31,63,127,255,31,543,1567,3615,7711,16383,32767,65535]) (.nd))
theorem cX (k:Nat)(y:Tup YH):EX Tryd.f32 cE YH [1000000,1000001,1000002,1000003,1000004,1000005,1000006,1000007] bo cC [ez k] k y=VQ k y.1 y.2.1 y.2.2.1 y.2.2.2.1 y.2.2.2.2.1 y.2.2.2.2.2.1 y.2.2.2.2.2.2.1 y.2.2.2.2.2.2.2.1 y.2.2.2.2.2.2.2.2.1 y.2.2.2.2.2.2.2.2.2.1 y.2.2.2.2.2.2.2.2.2.2.1 y.2.2.2.2.2.2.2.2.2.2.2.1 y.2.2.2.2.2.2.2.2.2.2.2.2.1 y.2.2.2.2.2.2.2.2.2.2.2.2.2.1 y.2.2.2.2.2.2.2.2.2.2.2.2.2.2.1 y.2.2.2.2.2.2.2.2.2.2.2.2.2.2.2.1 y.2.2.2.2.2.2.2.2.2.2.2.2.2.2.2.2:=by kernel_rfl
noncomputable def YW (k:Nat):Ar Tryd.prog:=CK 32 Tryd.func32 (cX k)
noncomputable def Vn (k:Nat)(x1:Bu)(y40:(Ax × Bu))(z41:(Int × Int × Int × (List ByteArray))):Option ((Int × Int × Int × (List ByteArray)) ⊕ (Int × Int × (List ByteArray))) :=
cond (decide (z41.2.2.1 < (y40.2.length:Int))) (
(((ix y40.2 z41.2.2.1).bind fun a42 =>
(y40.2[z41.2.2.1.toNat]?).bind fun a43 =>
((cond (decide (z41.2.1 < (x1.length:Int))) (
(ix x1 z41.2.1).bind fun a44 =>
some ((a44.1.toList == a43.1.toList) && ((a44.2.1 == a43.2.1) && ((a44.2.2.1.toList == a43.2.2.1.toList) && ((a44.2.2.2 == a43.2.2.2) && true))))) (
some false):Option Bool)).bind fun y45 =>
cond y45 (
some (z41.1,(IntKind.wrap .i64 (z41.2.1+1)),z41.2.2.2)) (
Bl (decide ((z41.2.2.2.length+[a43.1].length) * 16<=140737488355328)) <|
some ((mx z41.1 a43.2.2.2),z41.2.1,(z41.2.2.2 ++ [a43.1]))):Option (Int × Int × (List ByteArray)))).bind fun y46 =>
some (.inl (y46.1,y46.2.1,(IntKind.wrap .i64 (z41.2.2.1+1)),y46.2.2))) (
some (.inr (z41.1,z41.2.1,z41.2.2.2)))
noncomputable def VY (k:Nat)(x1:Bu)(y47:(Int × Int × (List ByteArray)))(z62:Int):Option (Int ⊕ (Unit ⊕ Unit)) :=
cond (decide (z62 < (x1.length:Int))) (
(ix x1 z62).bind fun a63 =>
cond (decide (a63.2.2.2<=y47.1)) (
some (.inr (.inl ()))) (
some (.inl (IntKind.wrap .i64 (z62+1))))) (
some (.inr (.inr ())))
noncomputable def YQ (k:Nat)(x1:Bu)(x2:Int)(x3:Int)(x4:Int)(x5:Bool)(x6:Bool)(x7:Int)(x8:Ac)(x9:Int)(x10:Bool)(x11:Int)(x12:Int)(x13:Int)(x14:Ax)(x15:Ba)(x16:Ba)(x17:Ac)(x18:Ac):Option ((Bool × Ax) ⊕ (Bool × Ax × (List ByteArray))) :=
(VJ k x2 x3 x4 x5 x6 x7 x8 x9 x10 x11 x12 x13 x14 x15 x16 x17 x18).bind fun y40 =>
(AX (Vn k x1 y40) k (0,0,0,([]:List ByteArray))).bind fun y47 =>
((cond (decide (y47.2.1 < (x1.length:Int))) (
some true) (
cond (decide (0 < (y47.2.2.length:Int))) (
(VQ k x2 x3 x4 x5 x6 x7 x8 x9 x10 x11 x12 x13 y40.1 x15 x16 x17 x18).bind fun y51 =>
some (!y51)) (
some false)):Option Bool)).bind fun y52 =>
cond y52 (
some (.inl (false,y40.1))) (
(AX (VY k x1 y47) k 0).bind fun y64 =>
Aq (fun y65 =>
some (.inl (false,y40.1))) (fun y66 =>
some (.inr (true,y40.1,y47.2.2))) y64)
def cU:AZ:=⟨[.pt 1000000 0,.fz .u AG],[(1000000,.bx 53 [.i .i64,.i .i64,.i .i64,.b,.pt 1000001 0,.b,.mp 1000002,.i .i64,.fz .u AD,.i .u32,.b,.i .i64]),(1000001,.bx 59 [.mp 1000003]),(1000002,.bx 3000000 [.i .i64,.pt 1000004 0,.i .i64,.pt 1000005 0]),(1000003,.mp ⟨.s,true,AG⟩),(1000004,.bx 89 [.sl .u 1000006,.fz .u AL]),(1000005,.bx 89 [.sl .u 1000007,.fz .u AL]),(1000006,.ar 91 AD),(1000007,.ar 91 AD)]⟩
def Xi:List Al:=[.tl AG,.ti,.ti,.ti,.tb,.tb,.ti,.tl AD,.ti,.tb,.ti,.ti,.ti,.tm ⟨.s,true,AG⟩,.tl AL,.tl AL,.tl AD,.tl AD]
def aJ:List AY:=[⟨.tp [.c (.slice none 0 0),.b],[(1000001,.bx 59 [.mp 1000003]),(1000003,.mp ⟨.s,true,AG⟩)],[.tb,.tm ⟨.s,true,AG⟩]⟩,⟨.tp [.sl .u 500000,.b],[(1000001,.bx 59 [.mp 1000003]),(1000003,.mp ⟨.s,true,AG⟩),(500000,.ar 9 (.str .nil))],[.tb,.tm ⟨.s,true,AG⟩,.tl (.str .nil)]⟩]
def cL:An:=.sq (.nd) (.sq (.nd) (.sq (.nd) (.sq (.sq (.nd) (.lp [0,1,14,15] [401400,1000001,1000003] ⟨[(6,.sl .n 300500),(7,.i .u32),(8,.i .i64),(16,.i .i64)],[(300500,.ar 9 (.str .nil))]⟩ [.ti,.ti,.ti,.tl (.str .nil)] [(2,⟨[(6,.sl .n 300525),(7,.i .u32),(8,.i .i64)],[(300525,.ar 9 (.str .nil))]⟩)] [[.ti,.ti,.tl (.str .nil)]] (.sq (.nd) (.sq (.nd) (.jn [16] [] [(0,⟨[(6,.sl .n 300850),(7,.i .u32),(8,.i .i64)],[(300850,.ar 9 (.str .nil))]⟩)] [[.ti,.ti,.tl (.str .nil)]] (.sq (.nd) (.sq (.jn [6,7,8,10] [10,300500] [(0,⟨[(31,.b)],[]⟩)] [[.tb]] (.mk [] [0,0,2,7,15,31,31,127,255,31,1023,2047]) (.nd)) (.nd))) (.nd)))))) (.sq (.jn [1,6,7] [300525,1000001,1000003] [(0,⟨[(57,.b)],[]⟩)] [[.tb]] (.nd) (.nd)) (.sq (.sq (.nd) (.lp [6,7,58,59] [300525,1000001,1000003] ⟨[(60,.i .i64)],[]⟩ [.ti] [(1,⟨[(4,.c (.slice none 0 0)),(5,.lb false)],[]⟩),(4,⟨[],[]⟩)] [[],[]] (.nd))) (.nd))))))
theorem cd (k:Nat)(y:Tup Xi):EX Tryd.f27 cU Xi [1000000,1000002,1000004,1000005,1000006,1000007] aJ cL [Yb k,YW k] k y=YQ k y.1 y.2.1 y.2.2.1 y.2.2.2.1 y.2.2.2.2.1 y.2.2.2.2.2.1 y.2.2.2.2.2.2.1 y.2.2.2.2.2.2.2.1 y.2.2.2.2.2.2.2.2.1 y.2.2.2.2.2.2.2.2.2.1 y.2.2.2.2.2.2.2.2.2.2.1 y.2.2.2.2.2.2.2.2.2.2.2.1 y.2.2.2.2.2.2.2.2.2.2.2.2.1 y.2.2.2.2.2.2.2.2.2.2.2.2.2.1 y.2.2.2.2.2.2.2.2.2.2.2.2.2.2.1 y.2.2.2.2.2.2.2.2.2.2.2.2.2.2.2.1 y.2.2.2.2.2.2.2.2.2.2.2.2.2.2.2.2.1 y.2.2.2.2.2.2.2.2.2.2.2.2.2.2.2.2.2:=by kernel_rfl
noncomputable def au (k:Nat):Ar Tryd.prog:=CK 27 Tryd.func27 (cd k)
noncomputable def WG (k:Nat)(x5:Bu)(z22:(Int × Int)):Option ((Int × Int) ⊕ Int) :=
cond (decide (z22.2 < (x5.length:Int))) (
(ix x5 z22.2).bind fun a23 =>
some (.inl ((mx z22.1 a23.2.2.2),(IntKind.wrap .i64 (z22.2+1))))) (
some (.inr z22.1))
noncomputable def YL (k:Nat)(x1:Int)(x2:Int)(x3:Int)(x4:Int)(x5:Bu)(x6:(List ByteArray))(x7:(List ByteArray))(x8:Int)(x9:Int)(x10:Int)(x11:Bool)(x12:Bool)(x13:Int)(x14:Ac)(x15:Int)(x16:Bool)(x17:Int)(x18:Int)(x19:Int)(x20:Ax)(x21:Ba)(x22:Ba)(x23:Ac)(x24:Ac):Option WA :=
cond x12 (
some ((x1 == 7),x8,x9,x10,x11,x12,x13,x14,x15,x16,x17,x18,x19,x20,x21,x22)) (
cond (x1 != 0) (
some ((x1 != 7),x8,x9,x10,x11,x12,x13,x14,x15,x16,x17,x18,x19,x20,x21,x22)) (
(((YQ k x5 x8 x9 x10 x11 true x13 x14 x15 x16 x17 x18 x19 x20 x21 x22 x23 x24).bind fun y10 =>
Aq (fun y11 =>
some (y11.1,y11.2,([]:List ByteArray))) (fun y12 =>
some (y12.1,y12.2.1,y12.2.2)) y10:Option (Bool × Ax × (List ByteArray)))).bind fun y13 =>
cond y13.1 (
(Xe k y13.2.2 y13.2.1).bind fun y14 =>
some (true,x8,x9,x10,x11,true,x13,([]:List (ByteArray × Bool × ByteArray)),x15,x16,x17,x18,x19,y14,x21,x22)) (
cond ((x14.length:Int) == 0) (
some (false,x8,x9,x10,x11,true,x13,x14,x15,x16,x17,x18,x19,y13.2.1,x21,x22)) (
(AX (WG k x5) k (0,0)).bind fun y24 =>
((cond (decide (y24<=x15)) (
some (IntKind.wrap .u32 (x15+1))) (
some y24):Option Int)).bind fun y25 =>
none))))
def bS:AZ:=⟨[.pt 1000000 0,.ag [.i .i64,.i .i64,.i .u32,.i .i64,.fz .u AG,.fz .u (.str .nil),.fz .u (.str .nil)]],[(1000000,.bx 53 [.i .i64,.i .i64,.i .i64,.b,.pt 1000001 0,.b,.mp 1000002,.i .i64,.fz .u AD,.i .u32,.b,.i .i64]),(1000001,.bx 59 [.mp 1000003]),(1000002,.bx 3000000 [.i .i64,.pt 1000004 0,.i .i64,.pt 1000005 0]),(1000003,.mp ⟨.s,true,AG⟩),(1000004,.bx 89 [.sl .u 1000006,.fz .u AL]),(1000005,.bx 89 [.sl .u 1000007,.fz .u AL]),(1000006,.ar 91 AD),(1000007,.ar 91 AD)]⟩
def Xp:List Al:=[.ti,.ti,.ti,.ti,.tl AG,.tl (.str .nil),.tl (.str .nil),.ti,.ti,.ti,.tb,.tb,.ti,.tl AD,.ti,.tb,.ti,.ti,.ti,.tm ⟨.s,true,AG⟩,.tl AL,.tl AL,.tl AD,.tl AD]
def aK:List AY:=[⟨.b,[(1000000,.bx 53 [.i .i64,.i .i64,.i .i64,.b,.pt 1000001 0,.b,.mp 1000002,.i .i64,.fz .u AD,.i .u32,.b,.i .i64]),(1000001,.bx 59 [.mp 1000003]),(1000002,.bx 3000000 [.i .i64,.pt 1000004 0,.i .i64,.pt 1000005 0]),(1000003,.mp ⟨.s,true,AG⟩),(1000004,.bx 89 [.sl .u 1000006,.fz .u AL]),(1000005,.bx 89 [.sl .u 1000007,.fz .u AL])],[.tb,.ti,.ti,.ti,.tb,.tb,.ti,.tl AD,.ti,.tb,.ti,.ti,.ti,.tm ⟨.s,true,AG⟩,.tl AL,.tl AL]⟩]
def aQ:An:=.sq (.nd) (.sq (.nd) (.sq (.nd) (.sq (.nd) (.sq (.jn [0,3] [3,1000000,1000002,1000004,1000005] [(0,⟨[(5,.sl .u 301050),(6,.b)],[(1000001,.bx 59 [.mp 1000003]),(1000003,.mp ⟨.s,true,AG⟩),(301050,.ar 9 (.str .nil))]⟩)] [[.tb,.tm ⟨.s,true,AG⟩,.tl (.str .nil)]] (.nd) (.sq (.nd) (.sq (.sq (.nd) (.sq (.fr [(5,301050)]) (.nd))) (.nd)))) (.sq (.nd) (.sq (.nd) (.sq (.sq (.nd) (.lp [0,3,52,53] [3,1000000,1000001,1000002,1000003,1000004,1000005] ⟨[(7,.i .u32),(54,.i .i64)],[]⟩ [.ti,.ti] [(2,⟨[(7,.i .u32)],[]⟩)] [[.ti]] (.nd))) (.jn [0,3] [3,1000000,1000001,1000002,1000003,1000004,1000005] [(0,⟨[(7,.i .u32)],[]⟩)] [[.ti]] (.nd) (.nd)))))))))
theorem cm (k:Nat)(y:Tup Xp):EX Tryd.f21 bS Xp [1000006,1000007] aK aQ [au k,ZR k] k y=YL k y.1 y.2.1 y.2.2.1 y.2.2.2.1 y.2.2.2.2.1 y.2.2.2.2.2.1 y.2.2.2.2.2.2.1 y.2.2.2.2.2.2.2.1 y.2.2.2.2.2.2.2.2.1 y.2.2.2.2.2.2.2.2.2.1 y.2.2.2.2.2.2.2.2.2.2.1 y.2.2.2.2.2.2.2.2.2.2.2.1 y.2.2.2.2.2.2.2.2.2.2.2.2.1 y.2.2.2.2.2.2.2.2.2.2.2.2.2.1 y.2.2.2.2.2.2.2.2.2.2.2.2.2.2.1 y.2.2.2.2.2.2.2.2.2.2.2.2.2.2.2.1 y.2.2.2.2.2.2.2.2.2.2.2.2.2.2.2.2.1 y.2.2.2.2.2.2.2.2.2.2.2.2.2.2.2.2.2.1 y.2.2.2.2.2.2.2.2.2.2.2.2.2.2.2.2.2.2.1 y.2.2.2.2.2.2.2.2.2.2.2.2.2.2.2.2.2.2.2.1 y.2.2.2.2.2.2.2.2.2.2.2.2.2.2.2.2.2.2.2.2.1 y.2.2.2.2.2.2.2.2.2.2.2.2.2.2.2.2.2.2.2.2.2.1 y.2.2.2.2.2.2.2.2.2.2.2.2.2.2.2.2.2.2.2.2.2.2.1 y.2.2.2.2.2.2.2.2.2.2.2.2.2.2.2.2.2.2.2.2.2.2.2:=by kernel_rfl
noncomputable def dK (k:Nat):Ar Tryd.prog:=CK 21 Tryd.func21 (cm k)
noncomputable def VS (k:Nat)(y17:Bu)(z18:(Int × Int)):Option ((Int × Int) ⊕ (Unit ⊕ Int)) :=
cond (decide (z18.2 < (y17.length:Int))) (
(ix y17 z18.2).bind fun a19 =>
(y17[z18.2.toNat]?).bind fun a20 =>
cond (!a20.2.1) (
some (.inr (.inl ()))) (
some (.inl ((mx z18.1 a20.2.2.2),(IntKind.wrap .i64 (z18.2+1)))))) (
some (.inr (.inr z18.1)))
noncomputable def Ti (k:Nat)(y23:Int)(y42:(Ax × Bu))(z43:Int):Option (Int ⊕ (Unit ⊕ Unit)) :=
cond (decide (z43 < (y42.2.length:Int))) (
(ix y42.2 z43).bind fun a44 =>
(y42.2[z43.toNat]?).bind fun a45 =>
cond (decide (a45.2.2.2<=y23)) (
some (.inr (.inl ()))) (
some (.inl (IntKind.wrap .i64 (z43+1))))) (
some (.inr (.inr ())))
noncomputable def YD (k:Nat)(x1:(List ByteArray))(x2:Int)(x3:Int)(x4:Int)(x5:Bool)(x6:Bool)(x7:Int)(x8:Ac)(x9:Int)(x10:Bool)(x11:Int)(x12:Int)(x13:Int)(x14:Ax)(x15:Ba)(x16:Ba)(x17:Ac)(x18:Ac):Option (Bool × Ax) :=
cond ((x1.length:Int) == 0) (
some (true,x14)) (
(Xx k x1 x14).bind fun y17 =>
(AX (VS k y17) k (0,0)).bind fun y21 =>
Aq (fun y22 =>
some (false,x14)) (fun y23 =>
(Xe k x1 x14).bind fun y25 =>
(VJ k x2 x3 x4 x5 x6 x7 x8 x9 x10 x11 x12 x13 y25 x15 x16 x17 x18).bind fun y42 =>
(AX (Ti k y23 y42) k 0).bind fun y46 =>
Aq (fun y47 =>
some (false,y42.1)) (fun y48 =>
(VQ k x2 x3 x4 x5 x6 x7 x8 x9 x10 x11 x12 x13 y42.1 x15 x16 x17 x18).bind fun y49 =>
some (y49,y42.1)) y46) y21)
def dW:AZ:=⟨[.pt 1000000 0,.fz .u (.str .nil)],[(1000000,.bx 53 [.i .i64,.i .i64,.i .i64,.b,.pt 1000001 0,.b,.mp 1000002,.i .i64,.fz .u AD,.i .u32,.b,.i .i64]),(1000001,.bx 59 [.mp 1000003]),(1000002,.bx 3000000 [.i .i64,.pt 1000004 0,.i .i64,.pt 1000005 0]),(1000003,.mp ⟨.s,true,AG⟩),(1000004,.bx 89 [.sl .u 1000006,.fz .u AL]),(1000005,.bx 89 [.sl .u 1000007,.fz .u AL]),(1000006,.ar 91 AD),(1000007,.ar 91 AD)]⟩
def XX:List Al:=[.tl (.str .nil),.ti,.ti,.ti,.tb,.tb,.ti,.tl AD,.ti,.tb,.ti,.ti,.ti,.tm ⟨.s,true,AG⟩,.tl AL,.tl AL,.tl AD,.tl AD]
def ay:List AY:=[⟨.b,[(1000001,.bx 59 [.mp 1000003]),(1000003,.mp ⟨.s,true,AG⟩)],[.tb,.tm ⟨.s,true,AG⟩]⟩]
def aH:An:=.sq (.nd) (.sq (.nd) (.sq (.nd) (.sq (.sq (.nd) (.lp [0,1,18,19] [401800,1000001,1000003] ⟨[(5,.i .u32),(20,.i .i64)],[]⟩ [.ti,.ti] [(1,⟨[(4,.lb false)],[]⟩),(2,⟨[(5,.i .u32)],[]⟩)] [[],[.ti]] (.nd))) (.sq (.nd) (.sq (.sq (.nd) (.lp [0,5,39,40] [403900,1000001,1000003] ⟨[(41,.i .i64)],[]⟩ [.ti] [(1,⟨[(4,.lb false)],[]⟩),(4,⟨[],[]⟩)] [[],[]] (.nd))) (.nd))))))
theorem bL (k:Nat)(y:Tup XX):EX Tryd.f23 dW XX [1000000,1000002,1000004,1000005,1000006,1000007] ay aH [ZW k,ZR k,Yb k,YW k] k y=YD k y.1 y.2.1 y.2.2.1 y.2.2.2.1 y.2.2.2.2.1 y.2.2.2.2.2.1 y.2.2.2.2.2.2.1 y.2.2.2.2.2.2.2.1 y.2.2.2.2.2.2.2.2.1 y.2.2.2.2.2.2.2.2.2.1 y.2.2.2.2.2.2.2.2.2.2.1 y.2.2.2.2.2.2.2.2.2.2.2.1 y.2.2.2.2.2.2.2.2.2.2.2.2.1 y.2.2.2.2.2.2.2.2.2.2.2.2.2.1 y.2.2.2.2.2.2.2.2.2.2.2.2.2.2.1 y.2.2.2.2.2.2.2.2.2.2.2.2.2.2.2.1 y.2.2.2.2.2.2.2.2.2.2.2.2.2.2.2.2.1 y.2.2.2.2.2.2.2.2.2.2.2.2.2.2.2.2.2:=by kernel_rfl
noncomputable def bu (k:Nat):Ar Tryd.prog:=CK 23 Tryd.func23 (bL k)
end Go.Proofs.YtobfoiomjfdjjaaDoor.N

/- What the functions compute, natively, and that they do. Printed by a program (wip/xg). -/
import Derived.Test.YtobfoiomjfdjjaaDoorX1
namespace Go.Proofs.YtobfoiomjfdjjaaDoor.N
open Go Go.RowKit Go.Proofs.YtobfoiomjfdjjaaDoor.Mc Go.Proofs
set_option maxRecDepth 100000
set_option maxHeartbeats 0
set_option linter.unusedVariables false
variable [Mo]
noncomputable def Xm (k:Nat)(x1:Int)(x2:Int)(x3:ByteArray)(x4:ByteArray)(x5:(List ByteArray))(x6:Int)(x7:(List Int))(x8:Int)(x9:Int)(x10:Int)(x11:Int)(x12:Int)(x13:Int)(x14:Int)(x15:Bu)(x16:(List ByteArray))(x17:(List ByteArray))(x18:Int)(x19:Int)(x20:Int)(x21:Bool)(x22:Bool)(x23:Int)(x24:Ac)(x25:Int)(x26:Bool)(x27:Int)(x28:Int)(x29:Int)(x30:Ax)(x31:Ba)(x32:Ba)(x33:Ac)(x34:Ac):Option Po :=
cond (x1 == 1) (
cond (x11 != 0) (
some (true,x18,x19,x20,x21,x22,x23,x24,x25,x26,x27,x30)) (
(aU k).bind fun y4 =>
none)) (
cond (x1 == 8) (
cond (x11 != 0) (
some (true,x18,x19,x20,x21,x22,x23,x24,x25,x26,x27,x30)) (
none)) (
((cond (x1 == 9) (
some (x11 == 0)) (
some false):Option Bool)).bind fun y5 =>
cond y5 (
none) (
(YD k x17 x18 x19 x20 x21 x22 x23 x24 x25 x26 x27 x28 x29 x30 x31 x32 x33 x34).bind fun y6 =>
some (y6.1,x18,x19,x20,x21,x22,x23,x24,x25,x26,x27,y6.2))))
def eM:AZ:=⟨[.pt 1000000 0,.ag [.i .i64,.i .i64,.s,.s,.fz .u (.str .nil),.i .i64,.fz .u Hc,.i .i64,.i .i64,.i .i64],.ag [.i .i64,.i .i64,.i .u32,.i .i64,.fz .u AG,.fz .u (.str .nil),.fz .u (.str .nil)]],[(1000000,.bx 53 [.i .i64,.i .i64,.i .i64,.b,.pt 1000001 0,.b,.mp 1000002,.i .i64,.fz .u AD,.i .u32,.b,.i .i64]),(1000001,.bx 59 [.mp 1000003]),(1000002,.bx 3000000 [.i .i64,.pt 1000004 0,.i .i64,.pt 1000005 0]),(1000003,.mp ⟨.s,true,AG⟩),(1000004,.bx 89 [.sl .u 1000006,.fz .u AL]),(1000005,.bx 89 [.sl .u 1000007,.fz .u AL]),(1000006,.ar 91 AD),(1000007,.ar 91 AD)]⟩
def YZ:List Al:=[.ti,.ti,.ts,.ts,.tl (.str .nil),.ti,.tl Hc,.ti,.ti,.ti,.ti,.ti,.ti,.ti,.tl AG,.tl (.str .nil),.tl (.str .nil),.ti,.ti,.ti,.tb,.tb,.ti,.tl AD,.ti,.tb,.ti,.ti,.ti,.tm ⟨.s,true,AG⟩,.tl AL,.tl AL,.tl AD,.tl AD]
def du:List AY:=[⟨.b,[(1000000,.bx 53 [.i .i64,.i .i64,.i .i64,.b,.pt 1000001 0,.b,.mp 1000002,.i .i64,.fz .u AD,.i .u32,.b,.i .i64]),(1000001,.bx 59 [.mp 1000003]),(1000003,.mp ⟨.s,true,AG⟩)],[.tb,.ti,.ti,.ti,.tb,.tb,.ti,.tl AD,.ti,.tb,.ti,.tm ⟨.s,true,AG⟩]⟩]
def aW:An:=.sq (.nd) (.sq (.sq (.nd) (.sq (.sq (.nd) (.sq (.nd) (.sq (.mk [] [0,1,3,7,0,16,48,112,0,511]) (.nd)))) (.sq (.nd) (.sq (.sq (.mk [] [0,1,3,7,15,31,15,15,143,463,1023,2047,4095]) (.nd)) (.jn [0,4,5] [4,5,1000000,1000001,1000003] [(0,⟨[(54,.b)],[]⟩)] [[.tb]] (.nd) (.nd)))))) (.nd))
theorem dy (k:Nat)(y:Tup YZ):EX Tryd.f25 eM YZ [1000002,1000004,1000005,1000006,1000007] du aW [eR k,bu k] k y=Xm k y.1 y.2.1 y.2.2.1 y.2.2.2.1 y.2.2.2.2.1 y.2.2.2.2.2.1 y.2.2.2.2.2.2.1 y.2.2.2.2.2.2.2.1 y.2.2.2.2.2.2.2.2.1 y.2.2.2.2.2.2.2.2.2.1 y.2.2.2.2.2.2.2.2.2.2.1 y.2.2.2.2.2.2.2.2.2.2.2.1 y.2.2.2.2.2.2.2.2.2.2.2.2.1 y.2.2.2.2.2.2.2.2.2.2.2.2.2.1 y.2.2.2.2.2.2.2.2.2.2.2.2.2.2.1 y.2.2.2.2.2.2.2.2.2.2.2.2.2.2.2.1 y.2.2.2.2.2.2.2.2.2.2.2.2.2.2.2.2.1 y.2.2.2.2.2.2.2.2.2.2.2.2.2.2.2.2.2.1 y.2.2.2.2.2.2.2.2.2.2.2.2.2.2.2.2.2.2.1 y.2.2.2.2.2.2.2.2.2.2.2.2.2.2.2.2.2.2.2.1 y.2.2.2.2.2.2.2.2.2.2.2.2.2.2.2.2.2.2.2.2.1 y.2.2.2.2.2.2.2.2.2.2.2.2.2.2.2.2.2.2.2.2.2.1 y.2.2.2.2.2.2.2.2.2.2.2.2.2.2.2.2.2.2.2.2.2.2.1 y.2.2.2.2.2.2.2.2.2.2.2.2.2.2.2.2.2.2.2.2.2.2.2.1 y.2.2.2.2.2.2.2.2.2.2.2.2.2.2.2.2.2.2.2.2.2.2.2.2.1 y.2.2.2.2.2.2.2.2.2.2.2.2.2.2.2.2.2.2.2.2.2.2.2.2.2.1 y.2.2.2.2.2.2.2.2.2.2.2.2.2.2.2.2.2.2.2.2.2.2.2.2.2.2.1 y.2.2.2.2.2.2.2.2.2.2.2.2.2.2.2.2.2.2.2.2.2.2.2.2.2.2.2.1 y.2.2.2.2.2.2.2.2.2.2.2.2.2.2.2.2.2.2.2.2.2.2.2.2.2.2.2.2.1 y.2.2.2.2.2.2.2.2.2.2.2.2.2.2.2.2.2.2.2.2.2.2.2.2.2.2.2.2.2.1 y.2.2.2.2.2.2.2.2.2.2.2.2.2.2.2.2.2.2.2.2.2.2.2.2.2.2.2.2.2.2.1 y.2.2.2.2.2.2.2.2.2.2.2.2.2.2.2.2.2.2.2.2.2.2.2.2.2.2.2.2.2.2.2.1 y.2.2.2.2.2.2.2.2.2.2.2.2.2.2.2.2.2.2.2.2.2.2.2.2.2.2.2.2.2.2.2.2.1 y.2.2.2.2.2.2.2.2.2.2.2.2.2.2.2.2.2.2.2.2.2.2.2.2.2.2.2.2.2.2.2.2.2:=by kernel_rfl
noncomputable def bg (k:Nat):Ar Tryd.prog:=CK 25 Tryd.func25 (dy k)
noncomputable def YF (k:Nat)(x1:Int)(x2:Int)(x3:ByteArray)(x4:ByteArray)(x5:(List ByteArray))(x6:Int)(x7:(List Int))(x8:Int)(x9:Int)(x10:Int)(x11:Int)(x12:Int)(x13:Int)(x14:Int)(x15:Bu)(x16:(List ByteArray))(x17:(List ByteArray))(x18:Int)(x19:Int)(x20:Int)(x21:Bool)(x22:Bool)(x23:Int)(x24:Ac)(x25:Int)(x26:Bool)(x27:Int)(x28:Int)(x29:Int)(x30:Ax)(x31:Ba)(x32:Ba)(x33:Ac)(x34:Ac):Option (WA ⊕ WA) :=
((cond (x1 == 11) (
some true) (
cond (x1 == 12) (
some true) (
some (x1 == 13))):Option Bool)).bind fun y9 =>
cond y9 (
((cond (x1 == 12) (
(Xg k x18 x19 x20 x21 x22 x23 x24 x25 true x27 x28 x29 x30 x31 x32 x33 x34).bind fun y10 =>
some (.inl (y10.1,y10.2.1,y10.2.2.1,y10.2.2.2.1,y10.2.2.2.2.1,y10.2.2.2.2.2.1,y10.2.2.2.2.2.2.1,y10.2.2.2.2.2.2.2.1,y10.2.2.2.2.2.2.2.2.1,y10.2.2.2.2.2.2.2.2.2))) (
some (.inr (x18,x19,x20,x21,x22,x23,x24,x25,x27))):Option (KU ⊕ (Int × Int × Int × Bool × Bool × Int × Ac × Int × Int)))).bind fun y11 =>
Aq (fun y12 =>
some (.inl (true,y12.1,y12.2.1,y12.2.2.1,y12.2.2.2.1,y12.2.2.2.2.1,y12.2.2.2.2.2.1,y12.2.2.2.2.2.2.1,y12.2.2.2.2.2.2.2.1,y12.2.2.2.2.2.2.2.2.1,y12.2.2.2.2.2.2.2.2.2,x28,x29,x30,x31,x32))) (fun y13 =>
some (.inr (true,y13.1,y13.2.1,y13.2.2.1,y13.2.2.2.1,y13.2.2.2.2.1,y13.2.2.2.2.2.1,y13.2.2.2.2.2.2.1,y13.2.2.2.2.2.2.2.1,true,y13.2.2.2.2.2.2.2.2,x28,x29,x30,x31,x32))) y11) (
cond (x1 == 14) (
(YL k x11 x12 x13 x14 x15 x16 x17 x18 x19 x20 x21 x22 x23 x24 x25 x26 x27 x28 x29 x30 x31 x32 x33 x34).bind fun y14 =>
some (.inr (y14.1,y14.2.1,y14.2.2.1,y14.2.2.2.1,y14.2.2.2.2.1,y14.2.2.2.2.2.1,y14.2.2.2.2.2.2.1,y14.2.2.2.2.2.2.2.1,y14.2.2.2.2.2.2.2.2.1,y14.2.2.2.2.2.2.2.2.2.1,y14.2.2.2.2.2.2.2.2.2.2.1,y14.2.2.2.2.2.2.2.2.2.2.2.1,y14.2.2.2.2.2.2.2.2.2.2.2.2.1,y14.2.2.2.2.2.2.2.2.2.2.2.2.2.1,y14.2.2.2.2.2.2.2.2.2.2.2.2.2.2.1,y14.2.2.2.2.2.2.2.2.2.2.2.2.2.2.2))) (
((cond (decide (x1 < 1)) (
some true) (
some (decide (14 < x1))):Option Bool)).bind fun y15 =>
cond y15 (
some (.inr ((x11 == 1),x18,x19,x20,x21,x22,x23,x24,x25,x26,x27,x28,x29,x30,x31,x32))) (
cond (!x22) (
some (.inr ((x11 == 6),x18,x19,x20,x21,x22,x23,x24,x25,x26,x27,x28,x29,x30,x31,x32))) (
((cond x26 (
some (x18,x19,x20,x21,x22,x23,x24,x25,true,x27)) (
some (x18,x19,x20,x21,x22,x23,x24,x25,(x1 == 7),x27)):Option KU)).bind fun y16 =>
((cond (x11 == 6) (
some true) (
some (x11 == 7)):Option Bool)).bind fun y18 =>
cond y18 (
none) (
((cond (x1 == 2) (
some (x1 == 2)) (
cond (x1 == 3) (
some (x1 == 3)) (
cond (x1 == 4) (
some (x1 == 4)) (
cond (x1 == 5) (
some (x1 == 5)) (
some (x1 == 6))))):Option Bool)).bind fun y20 =>
cond y20 (
none) (
(Xm k x1 x2 x3 x4 x5 x6 x7 x8 x9 x10 x11 x12 x13 x14 x15 x16 x17 y16.1 y16.2.1 y16.2.2.1 y16.2.2.2.1 y16.2.2.2.2.1 y16.2.2.2.2.2.1 y16.2.2.2.2.2.2.1 y16.2.2.2.2.2.2.2.1 y16.2.2.2.2.2.2.2.2.1 y16.2.2.2.2.2.2.2.2.2 x28 x29 x30 x31 x32 x33 x34).bind fun y21 =>
some (.inr (y21.1,y21.2.1,y21.2.2.1,y21.2.2.2.1,y21.2.2.2.2.1,y21.2.2.2.2.2.1,y21.2.2.2.2.2.2.1,y21.2.2.2.2.2.2.2.1,y21.2.2.2.2.2.2.2.2.1,y21.2.2.2.2.2.2.2.2.2.1,y21.2.2.2.2.2.2.2.2.2.2.1,x28,x29,y21.2.2.2.2.2.2.2.2.2.2.2,x31,x32))))))))
def dI:AZ:=⟨[.pt 1000000 0,.ag [.i .i64,.i .i64,.s,.s,.fz .u (.str .nil),.i .i64,.fz .u Hc,.i .i64,.i .i64,.i .i64],.ag [.i .i64,.i .i64,.i .u32,.i .i64,.fz .u AG,.fz .u (.str .nil),.fz .u (.str .nil)]],[(1000000,.bx 53 [.i .i64,.i .i64,.i .i64,.b,.pt 1000001 0,.b,.mp 1000002,.i .i64,.fz .u AD,.i .u32,.b,.i .i64]),(1000001,.bx 59 [.mp 1000003]),(1000002,.bx 3000000 [.i .i64,.pt 1000004 0,.i .i64,.pt 1000005 0]),(1000003,.mp ⟨.s,true,AG⟩),(1000004,.bx 89 [.sl .u 1000006,.fz .u AL]),(1000005,.bx 89 [.sl .u 1000007,.fz .u AL]),(1000006,.ar 91 AD),(1000007,.ar 91 AD)]⟩
def Xs:List Al:=[.ti,.ti,.ts,.ts,.tl (.str .nil),.ti,.tl Hc,.ti,.ti,.ti,.ti,.ti,.ti,.ti,.tl AG,.tl (.str .nil),.tl (.str .nil),.ti,.ti,.ti,.tb,.tb,.ti,.tl AD,.ti,.tb,.ti,.ti,.ti,.tm ⟨.s,true,AG⟩,.tl AL,.tl AL,.tl AD,.tl AD]
def dR:List AY:=[⟨.b,[(1000000,.bx 53 [.i .i64,.i .i64,.i .i64,.b,.pt 1000001 0,.b,.mp 500000,.i .i64,.fz .u AD,.i .u32,.b,.i .i64]),(1000001,.bx 59 [.mp 1000003]),(1000002,.bx 3000000 [.i .i64,.pt 1000004 0,.i .i64,.pt 1000005 0]),(1000003,.mp ⟨.s,true,AG⟩),(1000004,.bx 89 [.sl .u 1000006,.fz .u AL]),(1000005,.bx 89 [.sl .u 1000007,.fz .u AL]),(500000,.bx 3000000 [])],[.tb,.ti,.ti,.ti,.tb,.tb,.ti,.tl AD,.ti,.tb,.ti,.ti,.ti,.tm ⟨.s,true,AG⟩,.tl AL,.tl AL]⟩,⟨.b,[(1000000,.bx 53 [.i .i64,.i .i64,.i .i64,.b,.pt 1000001 0,.b,.mp 1000002,.i .i64,.fz .u AD,.i .u32,.b,.i .i64]),(1000001,.bx 59 [.mp 1000003]),(1000002,.bx 3000000 [.i .i64,.pt 1000004 0,.i .i64,.pt 1000005 0]),(1000003,.mp ⟨.s,true,AG⟩),(1000004,.bx 89 [.sl .u 1000006,.fz .u AL]),(1000005,.bx 89 [.sl .u 1000007,.fz .u AL])],[.tb,.ti,.ti,.ti,.tb,.tb,.ti,.tl AD,.ti,.tb,.ti,.ti,.ti,.tm ⟨.s,true,AG⟩,.tl AL,.tl AL]⟩]
def aO:An:=.sq (.nd) (.sq (.jn [0,4,5] [4,5,1000000,1000001,1000002,1000003,1000004,1000005] [(0,⟨[(10,.b)],[]⟩)] [[.tb]] (.nd) (.sq (.sq (.nd) (.jn [] [1000001,1000002,1000003,1000004,1000005] [(0,⟨[],[(1000000,.bx 53 [.i .i64,.i .i64,.i .i64,.b,.pt 1000001 0,.b,.mp 300450,.i .i64,.fz .u AD,.i .u32,.b,.i .i64]),(300450,.bx 3000000 [])]⟩),(0,⟨[],[(1000000,.bx 53 [.i .i64,.i .i64,.i .i64,.b,.pt 1000001 0,.b,.mp 1000002,.i .i64,.fz .u AD,.i .u32,.lb true,.i .i64])]⟩)] [[.ti,.ti,.ti,.tb,.tb,.ti,.tl AD,.ti,.tb,.ti],[.ti,.ti,.ti,.tb,.tb,.ti,.tl AD,.ti,.ti]] (.nd) (.nd))) (.sq (.nd) (.sq (.nd) (.jn [0,4,5] [4,5,1000000,1000001,1000002,1000003,1000004,1000005] [(0,⟨[(39,.b)],[]⟩)] [[.tb]] (.nd) (.nd)))))) (.jn [0,4,5] [4,5,1000001,1000002,1000003,1000004,1000005] [(0,⟨[],[(1000000,.bx 53 [.i .i64,.i .i64,.i .i64,.b,.pt 1000001 0,.b,.mp 1000002,.i .i64,.fz .u AD,.i .u32,.b,.i .i64])]⟩)] [[.ti,.ti,.ti,.tb,.tb,.ti,.tl AD,.ti,.tb,.ti]] (.nd) (.sq (.jn [0,4,5] [4,5,1000000,1000001,1000002,1000003,1000004,1000005] [(0,⟨[(79,.b)],[]⟩)] [[.tb]] (.nd) (.nd)) (.sq (.sq (.nd) (.jn [0,4,5] [4,5,1000000,1000001,1000002,1000003,1000004,1000005] [(0,⟨[(95,.b)],[]⟩)] [[.tb]] (.nd) (.sq (.sq (.mk [] [0,1,3,7,0,16,63,127,255,255,511,2047]) (.nd)) (.nd)))) (.nd)))))
theorem cq (k:Nat)(y:Tup Xs):EX Tryd.f17 dI Xs [1000006,1000007] dR aO [dA k,dK k,bg k] k y=YF k y.1 y.2.1 y.2.2.1 y.2.2.2.1 y.2.2.2.2.1 y.2.2.2.2.2.1 y.2.2.2.2.2.2.1 y.2.2.2.2.2.2.2.1 y.2.2.2.2.2.2.2.2.1 y.2.2.2.2.2.2.2.2.2.1 y.2.2.2.2.2.2.2.2.2.2.1 y.2.2.2.2.2.2.2.2.2.2.2.1 y.2.2.2.2.2.2.2.2.2.2.2.2.1 y.2.2.2.2.2.2.2.2.2.2.2.2.2.1 y.2.2.2.2.2.2.2.2.2.2.2.2.2.2.1 y.2.2.2.2.2.2.2.2.2.2.2.2.2.2.2.1 y.2.2.2.2.2.2.2.2.2.2.2.2.2.2.2.2.1 y.2.2.2.2.2.2.2.2.2.2.2.2.2.2.2.2.2.1 y.2.2.2.2.2.2.2.2.2.2.2.2.2.2.2.2.2.2.1 y.2.2.2.2.2.2.2.2.2.2.2.2.2.2.2.2.2.2.2.1 y.2.2.2.2.2.2.2.2.2.2.2.2.2.2.2.2.2.2.2.2.1 y.2.2.2.2.2.2.2.2.2.2.2.2.2.2.2.2.2.2.2.2.2.1 y.2.2.2.2.2.2.2.2.2.2.2.2.2.2.2.2.2.2.2.2.2.2.1 y.2.2.2.2.2.2.2.2.2.2.2.2.2.2.2.2.2.2.2.2.2.2.2.1 y.2.2.2.2.2.2.2.2.2.2.2.2.2.2.2.2.2.2.2.2.2.2.2.2.1 y.2.2.2.2.2.2.2.2.2.2.2.2.2.2.2.2.2.2.2.2.2.2.2.2.2.1 y.2.2.2.2.2.2.2.2.2.2.2.2.2.2.2.2.2.2.2.2.2.2.2.2.2.2.1 y.2.2.2.2.2.2.2.2.2.2.2.2.2.2.2.2.2.2.2.2.2.2.2.2.2.2.2.1 y.2.2.2.2.2.2.2.2.2.2.2.2.2.2.2.2.2.2.2.2.2.2.2.2.2.2.2.2.1 y.2.2.2.2.2.2.2.2.2.2.2.2.2.2.2.2.2.2.2.2.2.2.2.2.2.2.2.2.2.1 y.2.2.2.2.2.2.2.2.2.2.2.2.2.2.2.2.2.2.2.2.2.2.2.2.2.2.2.2.2.2.1 y.2.2.2.2.2.2.2.2.2.2.2.2.2.2.2.2.2.2.2.2.2.2.2.2.2.2.2.2.2.2.2.1 y.2.2.2.2.2.2.2.2.2.2.2.2.2.2.2.2.2.2.2.2.2.2.2.2.2.2.2.2.2.2.2.2.1 y.2.2.2.2.2.2.2.2.2.2.2.2.2.2.2.2.2.2.2.2.2.2.2.2.2.2.2.2.2.2.2.2.2:=by kernel_rfl
noncomputable def bf (k:Nat):Ar Tryd.prog:=CK 17 Tryd.func17 (cq k)
noncomputable def Xl (k:Nat)(x1:Int)(x2:Int)(x3:ByteArray)(x4:ByteArray)(x5:(List ByteArray))(x6:Int)(x7:(List Int))(x8:Int)(x9:Int)(x10:Int)(x11:Int)(x12:Int)(x13:Int)(x14:Int)(x15:Bu)(x16:(List ByteArray))(x17:(List ByteArray))(x18:Int)(x19:Int)(x20:Int)(x21:Bool)(x22:Bool)(x23:Int)(x24:Ac)(x25:Int)(x26:Bool)(x27:Int)(x28:Int)(x29:Int)(x30:Ax)(x31:Ba)(x32:Ba)(x33:Ac)(x34:Ac):Option (WA ⊕ WA) :=
cond x21 (
some (.inl (false,x18,x19,x20,x21,x22,x23,x24,x25,x26,x27,x28,x29,x30,x31,x32))) (
(((YF k x1 x2 x3 x4 x5 x6 x7 x8 x9 x10 x11 x12 x13 x14 x15 x16 x17 x18 x19 x20 x21 x22 x23 x24 x25 x26 x27 x28 x29 x30 x31 x32 x33 x34).bind fun y4 =>
Aq (fun y5 =>
some (.inl (y5.2.1,y5.2.2.1,y5.2.2.2.1,(!y5.1),y5.2.2.2.2.2.1,y5.2.2.2.2.2.2.1,y5.2.2.2.2.2.2.2.1,y5.2.2.2.2.2.2.2.2.1,y5.2.2.2.2.2.2.2.2.2.1,y5.2.2.2.2.2.2.2.2.2.2.1,y5.2.2.2.2.2.2.2.2.2.2.2.1,y5.2.2.2.2.2.2.2.2.2.2.2.2.1,y5.2.2.2.2.2.2.2.2.2.2.2.2.2.1,y5.2.2.2.2.2.2.2.2.2.2.2.2.2.2.1,y5.2.2.2.2.2.2.2.2.2.2.2.2.2.2.2))) (fun y6 =>
some (.inr (y6.2.1,y6.2.2.1,y6.2.2.2.1,(!y6.1),y6.2.2.2.2.2.1,y6.2.2.2.2.2.2.1,y6.2.2.2.2.2.2.2.1,y6.2.2.2.2.2.2.2.2.1,y6.2.2.2.2.2.2.2.2.2.1,y6.2.2.2.2.2.2.2.2.2.2.1,y6.2.2.2.2.2.2.2.2.2.2.2.1,y6.2.2.2.2.2.2.2.2.2.2.2.2.1,y6.2.2.2.2.2.2.2.2.2.2.2.2.2.1,y6.2.2.2.2.2.2.2.2.2.2.2.2.2.2.1,y6.2.2.2.2.2.2.2.2.2.2.2.2.2.2.2))) y4:Option ((Int × Int × Int × Bool × Bool × Int × Ac × Int × Bool × Int × Int × Int × Ax × Ba × Ba) ⊕ (Int × Int × Int × Bool × Bool × Int × Ac × Int × Bool × Int × Int × Int × Ax × Ba × Ba)))).bind fun y7 =>
Aq (fun y8 =>
some (.inr ((!y8.2.2.2.1),y8.1,y8.2.1,y8.2.2.1,y8.2.2.2.1,y8.2.2.2.2.1,y8.2.2.2.2.2.1,y8.2.2.2.2.2.2.1,y8.2.2.2.2.2.2.2.1,y8.2.2.2.2.2.2.2.2.1,y8.2.2.2.2.2.2.2.2.2.1,y8.2.2.2.2.2.2.2.2.2.2.1,y8.2.2.2.2.2.2.2.2.2.2.2.1,y8.2.2.2.2.2.2.2.2.2.2.2.2.1,y8.2.2.2.2.2.2.2.2.2.2.2.2.2.1,y8.2.2.2.2.2.2.2.2.2.2.2.2.2.2))) (fun y9 =>
some (.inl ((!y9.2.2.2.1),y9.1,y9.2.1,y9.2.2.1,y9.2.2.2.1,y9.2.2.2.2.1,y9.2.2.2.2.2.1,y9.2.2.2.2.2.2.1,y9.2.2.2.2.2.2.2.1,y9.2.2.2.2.2.2.2.2.1,y9.2.2.2.2.2.2.2.2.2.1,y9.2.2.2.2.2.2.2.2.2.2.1,y9.2.2.2.2.2.2.2.2.2.2.2.1,y9.2.2.2.2.2.2.2.2.2.2.2.2.1,y9.2.2.2.2.2.2.2.2.2.2.2.2.2.1,y9.2.2.2.2.2.2.2.2.2.2.2.2.2.2))) y7)
def dC:AZ:=⟨[.pt 1000000 0,.ag [.i .i64,.i .i64,.s,.s,.fz .u (.str .nil),.i .i64,.fz .u Hc,.i .i64,.i .i64,.i .i64],.ag [.i .i64,.i .i64,.i .u32,.i .i64,.fz .u AG,.fz .u (.str .nil),.fz .u (.str .nil)]],[(1000000,.bx 53 [.i .i64,.i .i64,.i .i64,.b,.pt 1000001 0,.b,.mp 1000002,.i .i64,.fz .u AD,.i .u32,.b,.i .i64]),(1000001,.bx 59 [.mp 1000003]),(1000002,.bx 3000000 [.i .i64,.pt 1000004 0,.i .i64,.pt 1000005 0]),(1000003,.mp ⟨.s,true,AG⟩),(1000004,.bx 89 [.sl .u 1000006,.fz .u AL]),(1000005,.bx 89 [.sl .u 1000007,.fz .u AL]),(1000006,.ar 91 AD),(1000007,.ar 91 AD)]⟩
def YM:List Al:=[.ti,.ti,.ts,.ts,.tl (.str .nil),.ti,.tl Hc,.ti,.ti,.ti,.ti,.ti,.ti,.ti,.tl AG,.tl (.str .nil),.tl (.str .nil),.ti,.ti,.ti,.tb,.tb,.ti,.tl AD,.ti,.tb,.ti,.ti,.ti,.tm ⟨.s,true,AG⟩,.tl AL,.tl AL,.tl AD,.tl AD]
def aj:List AY:=[⟨.b,[(1000000,.bx 53 [.i .i64,.i .i64,.i .i64,.b,.pt 1000001 0,.b,.mp 1000002,.i .i64,.fz .u AD,.i .u32,.b,.i .i64]),(1000001,.bx 59 [.mp 1000003]),(1000002,.bx 3000000 [.i .i64,.pt 1000004 0,.i .i64,.pt 1000005 0]),(1000003,.mp ⟨.s,true,AG⟩),(1000004,.bx 89 [.sl .u 1000006,.fz .u AL]),(1000005,.bx 89 [.sl .u 1000007,.fz .u AL])],[.tb,.ti,.ti,.ti,.tb,.tb,.ti,.tl AD,.ti,.tb,.ti,.ti,.ti,.tm ⟨.s,true,AG⟩,.tl AL,.tl AL]⟩,⟨.b,[(1000000,.bx 53 [.i .i64,.i .i64,.i .i64,.b,.pt 1000001 0,.b,.mp 500000,.i .i64,.fz .u AD,.i .u32,.b,.i .i64]),(1000001,.bx 59 [.mp 1000003]),(1000002,.bx 3000000 [.i .i64,.pt 1000004 0,.i .i64,.pt 1000005 0]),(1000003,.mp ⟨.s,true,AG⟩),(1000004,.bx 89 [.sl .u 1000006,.fz .u AL]),(1000005,.bx 89 [.sl .u 1000007,.fz .u AL]),(500000,.bx 3000000 [])],[.tb,.ti,.ti,.ti,.tb,.tb,.ti,.tl AD,.ti,.tb,.ti,.ti,.ti,.tm ⟨.s,true,AG⟩,.tl AL,.tl AL]⟩]
def bh:An:=.sq (.nd) (.sq (.nd) (.jn [0] [] [(0,⟨[],[(1000000,.bx 53 [.i .i64,.i .i64,.i .i64,.b,.pt 1000001 0,.b,.mp 300500,.i .i64,.fz .u AD,.i .u32,.b,.i .i64]),(1000001,.bx 59 [.mp 1000003]),(1000002,.bx 3000000 [.i .i64,.pt 1000004 0,.i .i64,.pt 1000005 0]),(1000003,.mp ⟨.s,true,AG⟩),(1000004,.bx 89 [.sl .u 1000006,.fz .u AL]),(1000005,.bx 89 [.sl .u 1000007,.fz .u AL]),(300500,.bx 3000000 [])]⟩),(0,⟨[],[(1000000,.bx 53 [.i .i64,.i .i64,.i .i64,.b,.pt 1000001 0,.b,.mp 1000002,.i .i64,.fz .u AD,.i .u32,.b,.i .i64]),(1000001,.bx 59 [.mp 1000003]),(1000002,.bx 3000000 [.i .i64,.pt 1000004 0,.i .i64,.pt 1000005 0]),(1000003,.mp ⟨.s,true,AG⟩),(1000004,.bx 89 [.sl .u 1000006,.fz .u AL]),(1000005,.bx 89 [.sl .u 1000007,.fz .u AL])]⟩)] [[.ti,.ti,.ti,.tb,.tb,.ti,.tl AD,.ti,.tb,.ti,.ti,.ti,.tm ⟨.s,true,AG⟩,.tl AL,.tl AL],[.ti,.ti,.ti,.tb,.tb,.ti,.tl AD,.ti,.tb,.ti,.ti,.ti,.tm ⟨.s,true,AG⟩,.tl AL,.tl AL]] (.nd) (.nd)))
theorem dS (k:Nat)(y:Tup YM):EX Tryd.f10 dC YM [1000006,1000007] aj bh [bf k] k y=Xl k y.1 y.2.1 y.2.2.1 y.2.2.2.1 y.2.2.2.2.1 y.2.2.2.2.2.1 y.2.2.2.2.2.2.1 y.2.2.2.2.2.2.2.1 y.2.2.2.2.2.2.2.2.1 y.2.2.2.2.2.2.2.2.2.1 y.2.2.2.2.2.2.2.2.2.2.1 y.2.2.2.2.2.2.2.2.2.2.2.1 y.2.2.2.2.2.2.2.2.2.2.2.2.1 y.2.2.2.2.2.2.2.2.2.2.2.2.2.1 y.2.2.2.2.2.2.2.2.2.2.2.2.2.2.1 y.2.2.2.2.2.2.2.2.2.2.2.2.2.2.2.1 y.2.2.2.2.2.2.2.2.2.2.2.2.2.2.2.2.1 y.2.2.2.2.2.2.2.2.2.2.2.2.2.2.2.2.2.1 y.2.2.2.2.2.2.2.2.2.2.2.2.2.2.2.2.2.2.1 y.2.2.2.2.2.2.2.2.2.2.2.2.2.2.2.2.2.2.2.1 y.2.2.2.2.2.2.2.2.2.2.2.2.2.2.2.2.2.2.2.2.1 y.2.2.2.2.2.2.2.2.2.2.2.2.2.2.2.2.2.2.2.2.2.1 y.2.2.2.2.2.2.2.2.2.2.2.2.2.2.2.2.2.2.2.2.2.2.1 y.2.2.2.2.2.2.2.2.2.2.2.2.2.2.2.2.2.2.2.2.2.2.2.1 y.2.2.2.2.2.2.2.2.2.2.2.2.2.2.2.2.2.2.2.2.2.2.2.2.1 y.2.2.2.2.2.2.2.2.2.2.2.2.2.2.2.2.2.2.2.2.2.2.2.2.2.1 y.2.2.2.2.2.2.2.2.2.2.2.2.2.2.2.2.2.2.2.2.2.2.2.2.2.2.1 y.2.2.2.2.2.2.2.2.2.2.2.2.2.2.2.2.2.2.2.2.2.2.2.2.2.2.2.1 y.2.2.2.2.2.2.2.2.2.2.2.2.2.2.2.2.2.2.2.2.2.2.2.2.2.2.2.2.1 y.2.2.2.2.2.2.2.2.2.2.2.2.2.2.2.2.2.2.2.2.2.2.2.2.2.2.2.2.2.1 y.2.2.2.2.2.2.2.2.2.2.2.2.2.2.2.2.2.2.2.2.2.2.2.2.2.2.2.2.2.2.1 y.2.2.2.2.2.2.2.2.2.2.2.2.2.2.2.2.2.2.2.2.2.2.2.2.2.2.2.2.2.2.2.1 y.2.2.2.2.2.2.2.2.2.2.2.2.2.2.2.2.2.2.2.2.2.2.2.2.2.2.2.2.2.2.2.2.1 y.2.2.2.2.2.2.2.2.2.2.2.2.2.2.2.2.2.2.2.2.2.2.2.2.2.2.2.2.2.2.2.2.2:=by kernel_rfl
noncomputable def eG (k:Nat):Ar Tryd.prog:=CK 10 Tryd.func10 (dS k)
noncomputable def F7 (k:Nat):Option Bool :=
(((F6 k 32 4 4).bind fun y4 =>
Aq (fun y5 =>
some (.inl ())) (fun y6 =>
some (.inr (y6.1,y6.2.1,y6.2.2.1,y6.2.2.2.1,y6.2.2.2.2.1,y6.2.2.2.2.2.1,y6.2.2.2.2.2.2.1,y6.2.2.2.2.2.2.2.1,y6.2.2.2.2.2.2.2.2.1,y6.2.2.2.2.2.2.2.2.2.1,y6.2.2.2.2.2.2.2.2.2.2))) y4:Option (Unit ⊕ (Int × Int × Int × Bool × Bool × Int × Ac × Int × Bool × Int × Ax)))).bind fun y7 =>
Aq (fun y8 =>
some false) (fun y9 =>
(((Vs k 14 0 ByteArray.empty ByteArray.empty ([]:List ByteArray) 0 ([]:List Int) 0 0 0 0 0 0 0 ([]:List Ht) ([]:List ByteArray) ([]:List ByteArray) y9.1 y9.2.1 y9.2.2.1 y9.2.2.2.1 y9.2.2.2.2.1 y9.2.2.2.2.2.1 y9.2.2.2.2.2.2.1 y9.2.2.2.2.2.2.2.1 y9.2.2.2.2.2.2.2.2.1 y9.2.2.2.2.2.2.2.2.2.1 y9.2.2.2.2.2.2.2.2.2.2).bind fun y15 =>
Aq (fun y16 =>
some (y16.1,y16.2.1,y16.2.2.1,y16.2.2.2.1,y16.2.2.2.2.1,y16.2.2.2.2.2.1,y16.2.2.2.2.2.2.1,y16.2.2.2.2.2.2.2.1,y16.2.2.2.2.2.2.2.2.1,y16.2.2.2.2.2.2.2.2.2.1,y16.2.2.2.2.2.2.2.2.2.2.1,y16.2.2.2.2.2.2.2.2.2.2.2)) (fun y17 =>
Aq (fun y18 =>
some (y18.1,y18.2.1,y18.2.2.1,y18.2.2.2.1,y18.2.2.2.2.1,y18.2.2.2.2.2.1,y18.2.2.2.2.2.2.1,y18.2.2.2.2.2.2.2.1,y18.2.2.2.2.2.2.2.2.1,y18.2.2.2.2.2.2.2.2.2.1,y18.2.2.2.2.2.2.2.2.2.2.1,y18.2.2.2.2.2.2.2.2.2.2.2)) (fun y19 =>
none) y17) y15:Option Po)).bind fun y20 =>
(((Vs k 1 0 ByteArray.empty ByteArray.empty ([]:List ByteArray) 0 ([]:List Int) 0 0 0 0 1 0 0 ([]:List Ht) ([]:List ByteArray) ([]:List ByteArray) y20.2.1 y20.2.2.1 y20.2.2.2.1 y20.2.2.2.2.1 y20.2.2.2.2.2.1 y20.2.2.2.2.2.2.1 y20.2.2.2.2.2.2.2.1 y20.2.2.2.2.2.2.2.2.1 y20.2.2.2.2.2.2.2.2.2.1 y20.2.2.2.2.2.2.2.2.2.2.1 y20.2.2.2.2.2.2.2.2.2.2.2).bind fun y26 =>
Aq (fun y27 =>
none) (fun y28 =>
Aq (fun y29 =>
none) (fun y30 =>
some (y30.1,y30.2.1,y30.2.2.1,y30.2.2.2.1,y30.2.2.2.2.1,y30.2.2.2.2.2.1,y30.2.2.2.2.2.2.1,y30.2.2.2.2.2.2.2.1,y30.2.2.2.2.2.2.2.2.1,y30.2.2.2.2.2.2.2.2.2.1,y30.2.2.2.2.2.2.2.2.2.2.1,y30.2.2.2.2.2.2.2.2.2.2.2.1,y30.2.2.2.2.2.2.2.2.2.2.2.2.1,y30.2.2.2.2.2.2.2.2.2.2.2.2.2.1,y30.2.2.2.2.2.2.2.2.2.2.2.2.2.2)) y28) y26:Option LM)).bind fun y31 =>
(((HW k 1 0 ByteArray.empty ByteArray.empty ([]:List ByteArray) 0 ([]:List Int) 0 0 0 0 7 0 0 ([]:List Ht) ([]:List ByteArray) ([]:List ByteArray) y31.2.1 y31.2.2.1 y31.2.2.2.1 y31.2.2.2.2.1 y31.2.2.2.2.2.1 y31.2.2.2.2.2.2.1 y31.2.2.2.2.2.2.2.1 y31.2.2.2.2.2.2.2.2.1 y31.2.2.2.2.2.2.2.2.2.1 y31.2.2.2.2.2.2.2.2.2.2.1 y31.2.2.2.2.2.2.2.2.2.2.2.1 y31.2.2.2.2.2.2.2.2.2.2.2.2.1 y31.2.2.2.2.2.2.2.2.2.2.2.2.2.1 y31.2.2.2.2.2.2.2.2.2.2.2.2.2.2).bind fun y41 =>
Aq (fun y42 =>
none) (fun y43 =>
Aq (fun y44 =>
none) (fun y45 =>
Aq (fun y46 =>
none) (fun y47 =>
Aq (fun y48 =>
none) (fun y49 =>
some (y49.1,y49.2.1,y49.2.2.1,y49.2.2.2.1,y49.2.2.2.2.1,y49.2.2.2.2.2.1,y49.2.2.2.2.2.2.1,y49.2.2.2.2.2.2.2.1,y49.2.2.2.2.2.2.2.2.1,y49.2.2.2.2.2.2.2.2.2.1,y49.2.2.2.2.2.2.2.2.2.2.1,y49.2.2.2.2.2.2.2.2.2.2.2.1,y49.2.2.2.2.2.2.2.2.2.2.2.2.1,y49.2.2.2.2.2.2.2.2.2.2.2.2.2.1,y49.2.2.2.2.2.2.2.2.2.2.2.2.2.2.1,y49.2.2.2.2.2.2.2.2.2.2.2.2.2.2.2.1,y49.2.2.2.2.2.2.2.2.2.2.2.2.2.2.2.2.1,y49.2.2.2.2.2.2.2.2.2.2.2.2.2.2.2.2.2)) y47) y45) y43) y41:Option (Bool × Int × Int × Int × Bool × Bool × Int × Ac × Int × Bool × Int × Int × Int × Ax × Ba × Ac × Ba × Ac))).bind fun y50 =>
cond y20.1 (
cond y31.1 (
cond (!y50.1) (
(Xl k 11 0 ByteArray.empty ByteArray.empty ([]:List ByteArray) 0 ([]:List Int) 0 0 0 0 0 0 0 ([]:List Ht) ([]:List ByteArray) ([]:List ByteArray) y50.2.1 y50.2.2.1 y50.2.2.2.1 y50.2.2.2.2.1 y50.2.2.2.2.2.1 y50.2.2.2.2.2.2.1 y50.2.2.2.2.2.2.2.1 y50.2.2.2.2.2.2.2.2.1 y50.2.2.2.2.2.2.2.2.2.1 y50.2.2.2.2.2.2.2.2.2.2.1 y50.2.2.2.2.2.2.2.2.2.2.2.1 y50.2.2.2.2.2.2.2.2.2.2.2.2.1 y50.2.2.2.2.2.2.2.2.2.2.2.2.2.1 y50.2.2.2.2.2.2.2.2.2.2.2.2.2.2.1 y50.2.2.2.2.2.2.2.2.2.2.2.2.2.2.2.2.1 y50.2.2.2.2.2.2.2.2.2.2.2.2.2.2.2.1 y50.2.2.2.2.2.2.2.2.2.2.2.2.2.2.2.2.2).bind fun y51 =>
Aq (fun y52 =>
some (!y52.1)) (fun y53 =>
some (!y53.1)) y51) (
some false)) (
some false)) (
some false)) y7
def A7:AZ:=⟨[],[]⟩
def h7:List Al:=[]
def R7:List AY:=[⟨.b,[],[.tb]⟩]
def n7:An:=.sq (.nd) (.jn [] [] [(0,⟨[(1,.c (.pointer none))],[]⟩),(0,⟨[(1,.pt 300110 0)],[(300110,.bx 53 [.i .i64,.i .i64,.i .i64,.b,.pt 300111 0,.b,.mp 300112,.i .i64,.fz .u AD,.i .u32,.b,.i .i64]),(300111,.bx 59 [.mp 300113]),(300112,.bx 3000000 []),(300113,.mp ⟨.s,true,AG⟩)]⟩)] [[],[.ti,.ti,.ti,.tb,.tb,.ti,.tl AD,.ti,.tb,.ti,.tm ⟨.s,true,AG⟩]] (.nd) (.sq (.nd) (.jn [1] [] [(0,⟨[(2,.b)],[(300110,.bx 53 [.i .i64,.i .i64,.i .i64,.b,.pt 300111 0,.b,.mp 300112,.i .i64,.fz .u AD,.i .u32,.b,.i .i64]),(300111,.bx 59 [.mp 300113]),(300112,.bx 3000000 []),(300113,.mp ⟨.s,true,AG⟩)]⟩)] [[.tb,.ti,.ti,.ti,.tb,.tb,.ti,.tl AD,.ti,.tb,.ti,.tm ⟨.s,true,AG⟩]] (.nd) (.jn [1,2] [] [(0,⟨[(3,.b)],[(300110,.bx 53 [.i .i64,.i .i64,.i .i64,.b,.pt 300111 0,.b,.mp 300112,.i .i64,.fz .u AD,.i .u32,.b,.i .i64]),(300111,.bx 59 [.mp 300113]),(300112,.bx 3000000 [.i .i64,.pt 300700 0]),(300113,.mp ⟨.s,true,AG⟩),(300700,.bx 89 [.sl .u 300701,.fz .u AL]),(300701,.ar 91 AD)]⟩)] [[.tb,.ti,.ti,.ti,.tb,.tb,.ti,.tl AD,.ti,.tb,.ti,.ti,.tm ⟨.s,true,AG⟩,.tl AL,.tl AD]] (.nd) (.jn [1,2,3] [] [(0,⟨[(4,.b)],[(300110,.bx 53 [.i .i64,.i .i64,.i .i64,.b,.pt 300111 0,.b,.mp 300112,.i .i64,.fz .u AD,.i .u32,.b,.i .i64]),(300111,.bx 59 [.mp 300113]),(300112,.bx 3000000 [.i .i64,.pt 300700 0,.i .i64,.pt 300800 0]),(300113,.mp ⟨.s,true,AG⟩),(300700,.bx 89 [.sl .u 300701,.fz .u AL]),(300701,.ar 91 AD),(300800,.bx 89 [.sl .u 300801,.fz .u AL]),(300801,.ar 91 AD)]⟩)] [[.tb,.ti,.ti,.ti,.tb,.tb,.ti,.tl AD,.ti,.tb,.ti,.ti,.ti,.tm ⟨.s,true,AG⟩,.tl AL,.tl AD,.tl AL,.tl AD]] (.nd) (.nd))))))
theorem e7 (k:Nat)(hm:Mo.m=false)(y:Tup h7):EX Tryd.f7 A7 h7 [] R7 n7 [C6 k,gV k,XZ k hm,eG k] k y=F7 k:=by kernel_rfl
noncomputable def C7 (k:Nat)(hm:Mo.m=false):Ar Tryd.prog:=CK 7 Tryd.func7 (e7 k hm)
noncomputable def F8 (k:Nat)(x1:Int):Option ByteArray :=
(YR k x1 12).bind fun y1 =>
(ix Dk y1).bind fun a2 =>
some a2
def A8:AZ:=⟨[.i .i64],[]⟩
def h8:List Al:=[.ti]
def R8:List AY:=[⟨.s,[],[.ts]⟩]
def n8:An:=.nd
theorem e8 (k:Nat)(y:Tup h8):EX Tryd.f8 A8 h8 [] R8 n8 [fD k] k y=F8 k y:=by kernel_rfl
noncomputable def C8 (k:Nat):Ar Tryd.prog:=CK 8 Tryd.func8 (e8 k)
noncomputable def F9 (k:Nat)(x1:ByteArray)(x2:Int):Option ByteArray :=
Bl (Dj (x1.size:Int) 0 (mn (x1.size:Int) x2)) <|
some (x1.extract 0 ((mn (x1.size:Int) x2).toNat))
def A9:AZ:=⟨[.s,.i .i64],[]⟩
def h9:List Al:=[.ts,.ti]
def R9:List AY:=[⟨.s,[],[.ts]⟩]
def n9:An:=.nd
theorem e9 (k:Nat)(y:Tup h9):EX Tryd.f9 A9 h9 [] R9 n9 [] k y=F9 k y.1 y.2:=by kernel_rfl
noncomputable def C9 (k:Nat):Ar Tryd.prog:=CK 9 Tryd.func9 (e9 k)
noncomputable def Ux (k:Nat)(x11:Bu)(y53:(Ax × Bu))(z54:(Int × Int × Int × (List ByteArray))):Option ((Int × Int × Int × (List ByteArray)) ⊕ (Int × Int × (List ByteArray))) :=
cond (decide (z54.2.2.1 < (y53.2.length:Int))) (
(((ix y53.2 z54.2.2.1).bind fun a55 =>
(y53.2[z54.2.2.1.toNat]?).bind fun a56 =>
((cond (decide (z54.2.1 < (x11.length:Int))) (
(ix x11 z54.2.1).bind fun a57 =>
(x11[z54.2.1.toNat]?).bind fun a58 =>
some ((a58.1.toList == a56.1.toList) && ((a58.2.1 == a56.2.1) && ((a58.2.2.1.toList == a56.2.2.1.toList) && ((a58.2.2.2 == a56.2.2.2) && true))))) (
some false):Option Bool)).bind fun y59 =>
cond y59 (
some (z54.1,(IntKind.wrap .i64 (z54.2.1+1)),z54.2.2.2)) (
Bl (decide ((z54.2.2.2.length+[a56.1].length) * 16<=140737488355328)) <|
some ((mx z54.1 a56.2.2.2),z54.2.1,(z54.2.2.2 ++ [a56.1]))):Option (Int × Int × (List ByteArray)))).bind fun y60 =>
some (.inl (y60.1,y60.2.1,(IntKind.wrap .i64 (z54.2.2.1+1)),y60.2.2))) (
some (.inr (z54.1,z54.2.1,z54.2.2.2)))
noncomputable def Uz (k:Nat)(x11:Bu)(y61:(Int × Int × (List ByteArray)))(z81:Int):Option (Int ⊕ (Unit ⊕ Unit)) :=
cond (decide (z81 < (x11.length:Int))) (
(ix x11 z81).bind fun a82 =>
(x11[z81.toNat]?).bind fun a83 =>
cond (decide (a83.2.2.2<=y61.1)) (
some (.inr (.inl ()))) (
some (.inl (IntKind.wrap .i64 (z81+1))))) (
some (.inr (.inr ())))
noncomputable def YY (k:Nat)(x1:Int)(x2:Int)(x3:Int)(x4:Bool)(x5:Bool)(x6:Int)(x7:Ac)(x8:Int)(x9:Bool)(x10:Int)(x11:Bu)(x12:Int)(x13:Ax)(x14:Ba)(x15:Ac):Option ((Bool × Ax) ⊕ (Bool × Ax × (List ByteArray))) :=
(SK k x1 x2 x3 x4 x5 x6 x7 x8 x9 x10 x12 x13 x14 x15).bind fun y53 =>
(AX (Ux k x11 y53) k (0,0,0,([]:List ByteArray))).bind fun y61 =>
((cond (decide (y61.2.1 < (x11.length:Int))) (
some true) (
cond (decide (0 < (y61.2.2.length:Int))) (
(Rq k x1 x2 x3 x4 x5 x6 x7 x8 x9 x10 x12 y53.1 x14 x15).bind fun y65 =>
some (!y65)) (
some false)):Option Bool)).bind fun y66 =>
cond y66 (
some (.inl (false,y53.1))) (
(AX (Uz k x11 y61) k 0).bind fun y84 =>
Aq (fun y85 =>
some (.inl (false,y53.1))) (fun y86 =>
some (.inr (true,y53.1,y61.2.2))) y84)
def ck:AZ:=⟨[.pt 1000000 0,.sl .u 1000001],[(1000000,.bx 53 [.i .i64,.i .i64,.i .i64,.b,.pt 1000002 0,.b,.mp 1000003,.i .i64,.fz .u AD,.i .u32,.b,.i .i64]),(1000001,.ar 41 AG),(1000002,.bx 59 [.mp 1000004]),(1000003,.bx 3000000 [.i .i64,.pt 1000005 0]),(1000004,.mp ⟨.s,true,AG⟩),(1000005,.bx 89 [.sl .u 1000006,.fz .u AL]),(1000006,.ar 91 AD)]⟩
def Xz:List Al:=[.ti,.ti,.ti,.tb,.tb,.ti,.tl AD,.ti,.tb,.ti,.tl AG,.ti,.tm ⟨.s,true,AG⟩,.tl AL,.tl AD]
def bT:List AY:=[⟨.tp [.c (.slice none 0 0),.b],[(1000002,.bx 59 [.mp 1000004]),(1000004,.mp ⟨.s,true,AG⟩)],[.tb,.tm ⟨.s,true,AG⟩]⟩,⟨.tp [.sl .u 500000,.b],[(1000002,.bx 59 [.mp 1000004]),(1000004,.mp ⟨.s,true,AG⟩),(500000,.ar 9 (.str .nil))],[.tb,.tm ⟨.s,true,AG⟩,.tl (.str .nil)]⟩]
def bV:An:=.sq (.nd) (.sq (.nd) (.sq (.nd) (.sq (.sq (.nd) (.lp [0,1,14,15] [401400,1000002,1000004] ⟨[(6,.sl .n 300500),(7,.i .u32),(8,.i .i64),(16,.i .i64)],[(300500,.ar 9 (.str .nil))]⟩ [.ti,.ti,.ti,.tl (.str .nil)] [(2,⟨[(6,.sl .n 300525),(7,.i .u32),(8,.i .i64)],[(300525,.ar 9 (.str .nil))]⟩)] [[.ti,.ti,.tl (.str .nil)]] (.sq (.nd) (.sq (.nd) (.jn [16] [] [(0,⟨[(6,.sl .n 300850),(7,.i .u32),(8,.i .i64)],[(300850,.ar 9 (.str .nil))]⟩)] [[.ti,.ti,.tl (.str .nil)]] (.sq (.nd) (.sq (.jn [6,7,8,10] [10,300500] [(0,⟨[(31,.b)],[]⟩)] [[.tb]] (.mk [] [0,0,2,7,15,31,31,127,255,31,1023,2047]) (.nd)) (.nd))) (.nd)))))) (.sq (.jn [1,6,7] [300525,1000002,1000004] [(0,⟨[(57,.b)],[]⟩)] [[.tb]] (.nd) (.nd)) (.sq (.sq (.nd) (.lp [6,7,58,59] [300525,1000002,1000004] ⟨[(60,.i .i64)],[]⟩ [.ti] [(1,⟨[(4,.c (.slice none 0 0)),(5,.lb false)],[]⟩),(4,⟨[],[]⟩)] [[],[]] (.nd))) (.nd))))))
theorem aw (k:Nat)(y:Tup Xz):EX Tryd.f27 ck Xz [1000000,1000001,1000003,1000005,1000006] bT bV [Tj k,Vy k] k y=YY k y.1 y.2.1 y.2.2.1 y.2.2.2.1 y.2.2.2.2.1 y.2.2.2.2.2.1 y.2.2.2.2.2.2.1 y.2.2.2.2.2.2.2.1 y.2.2.2.2.2.2.2.2.1 y.2.2.2.2.2.2.2.2.2.1 y.2.2.2.2.2.2.2.2.2.2.1 y.2.2.2.2.2.2.2.2.2.2.2.1 y.2.2.2.2.2.2.2.2.2.2.2.2.1 y.2.2.2.2.2.2.2.2.2.2.2.2.2.1 y.2.2.2.2.2.2.2.2.2.2.2.2.2.2:=by kernel_rfl
noncomputable def bq (k:Nat):Ar Tryd.prog:=CK 27 Tryd.func27 (aw k)
noncomputable def VA (k:Nat)(x17:Bu)(z27:(Int × Int)):Option ((Int × Int) ⊕ Int) :=
cond (decide (z27.2 < (x17.length:Int))) (
(ix x17 z27.2).bind fun a28 =>
(x17[z27.2.toNat]?).bind fun a29 =>
some (.inl ((mx z27.1 a29.2.2.2),(IntKind.wrap .i64 (z27.2+1))))) (
some (.inr z27.1))
noncomputable def Xu (k:Nat)(x1:Int)(x2:Int)(x3:Int)(x4:Int)(x5:(List ByteArray))(x6:(List ByteArray))(x7:Int)(x8:Int)(x9:Int)(x10:Bool)(x11:Bool)(x12:Int)(x13:Ac)(x14:Int)(x15:Bool)(x16:Int)(x17:Bu)(x18:Int)(x19:Ax)(x20:Ba)(x21:Ac):Option (Bool × Int × Int × Int × Bool × Bool × Int × Ac × Int × Bool × Int × Int × Ax × Ba) :=
cond x11 (
some ((x1 == 7),x7,x8,x9,x10,x11,x12,x13,x14,x15,x16,x18,x19,x20)) (
cond (x1 != 0) (
some ((x1 != 7),x7,x8,x9,x10,x11,x12,x13,x14,x15,x16,x18,x19,x20)) (
(((YY k x7 x8 x9 x10 true x12 x13 x14 x15 x16 x17 x18 x19 x20 x21).bind fun y10 =>
Aq (fun y11 =>
some (y11.1,y11.2,([]:List ByteArray))) (fun y12 =>
some (y12.1,y12.2.1,y12.2.2)) y10:Option (Bool × Ax × (List ByteArray)))).bind fun y13 =>
cond y13.1 (
(Xe k y13.2.2 y13.2.1).bind fun y14 =>
some (true,x7,x8,x9,x10,true,x12,([]:List (ByteArray × Bool × ByteArray)),x14,x15,x16,x18,y14,x20)) (
cond ((x13.length:Int) == 0) (
some (false,x7,x8,x9,x10,true,x12,x13,x14,x15,x16,x18,y13.2.1,x20)) (
(AX (VA k x17) k (0,0)).bind fun y30 =>
((cond (decide (y30<=x14)) (
some (IntKind.wrap .u32 (x14+1))) (
some y30):Option Int)).bind fun y31 =>
none))))
def cV:AZ:=⟨[.pt 1000000 0,.ag [.i .i64,.i .i64,.i .u32,.i .i64,.sl .u 1000001,.fz .u (.str .nil),.fz .u (.str .nil)]],[(1000000,.bx 53 [.i .i64,.i .i64,.i .i64,.b,.pt 1000002 0,.b,.mp 1000003,.i .i64,.fz .u AD,.i .u32,.b,.i .i64]),(1000001,.ar 41 AG),(1000002,.bx 59 [.mp 1000004]),(1000003,.bx 3000000 [.i .i64,.pt 1000005 0]),(1000004,.mp ⟨.s,true,AG⟩),(1000005,.bx 89 [.sl .u 1000006,.fz .u AL]),(1000006,.ar 91 AD)]⟩
def Yc:List Al:=[.ti,.ti,.ti,.ti,.tl (.str .nil),.tl (.str .nil),.ti,.ti,.ti,.tb,.tb,.ti,.tl AD,.ti,.tb,.ti,.tl AG,.ti,.tm ⟨.s,true,AG⟩,.tl AL,.tl AD]
def cZ:List AY:=[⟨.b,[(1000000,.bx 53 [.i .i64,.i .i64,.i .i64,.b,.pt 1000002 0,.b,.mp 1000003,.i .i64,.fz .u AD,.i .u32,.b,.i .i64]),(1000002,.bx 59 [.mp 1000004]),(1000003,.bx 3000000 [.i .i64,.pt 1000005 0]),(1000004,.mp ⟨.s,true,AG⟩),(1000005,.bx 89 [.sl .u 1000006,.fz .u AL])],[.tb,.ti,.ti,.ti,.tb,.tb,.ti,.tl AD,.ti,.tb,.ti,.ti,.tm ⟨.s,true,AG⟩,.tl AL]⟩]
def cS:An:=.sq (.nd) (.sq (.nd) (.sq (.nd) (.sq (.nd) (.sq (.jn [0,3] [3,1000000,1000003,1000005] [(0,⟨[(5,.sl .u 301050),(6,.b)],[(1000002,.bx 59 [.mp 1000004]),(1000004,.mp ⟨.s,true,AG⟩),(301050,.ar 9 (.str .nil))]⟩)] [[.tb,.tm ⟨.s,true,AG⟩,.tl (.str .nil)]] (.nd) (.sq (.nd) (.sq (.sq (.nd) (.sq (.fr [(5,301050)]) (.nd))) (.nd)))) (.sq (.nd) (.sq (.nd) (.sq (.sq (.nd) (.lp [0,3,52,53] [3,1000000,1000002,1000003,1000004,1000005] ⟨[(7,.i .u32),(54,.i .i64)],[]⟩ [.ti,.ti] [(2,⟨[(7,.i .u32)],[]⟩)] [[.ti]] (.nd))) (.jn [0,3] [3,1000000,1000002,1000003,1000004,1000005] [(0,⟨[(7,.i .u32)],[]⟩)] [[.ti]] (.nd) (.nd)))))))))
theorem ae (k:Nat)(y:Tup Yc):EX Tryd.f21 cV Yc [1000001,1000006] cZ cS [bq k,ZR k] k y=Xu k y.1 y.2.1 y.2.2.1 y.2.2.2.1 y.2.2.2.2.1 y.2.2.2.2.2.1 y.2.2.2.2.2.2.1 y.2.2.2.2.2.2.2.1 y.2.2.2.2.2.2.2.2.1 y.2.2.2.2.2.2.2.2.2.1 y.2.2.2.2.2.2.2.2.2.2.1 y.2.2.2.2.2.2.2.2.2.2.2.1 y.2.2.2.2.2.2.2.2.2.2.2.2.1 y.2.2.2.2.2.2.2.2.2.2.2.2.2.1 y.2.2.2.2.2.2.2.2.2.2.2.2.2.2.1 y.2.2.2.2.2.2.2.2.2.2.2.2.2.2.2.1 y.2.2.2.2.2.2.2.2.2.2.2.2.2.2.2.2.1 y.2.2.2.2.2.2.2.2.2.2.2.2.2.2.2.2.2.1 y.2.2.2.2.2.2.2.2.2.2.2.2.2.2.2.2.2.2.1 y.2.2.2.2.2.2.2.2.2.2.2.2.2.2.2.2.2.2.2.1 y.2.2.2.2.2.2.2.2.2.2.2.2.2.2.2.2.2.2.2.2:=by kernel_rfl
noncomputable def df (k:Nat):Ar Tryd.prog:=CK 21 Tryd.func21 (ae k)
noncomputable def Ju (k:Nat)(x1:(List ByteArray))(x2:Ax)(z18:(Int × Bu)):Option ((Int × Bu) ⊕ Bu) :=
cond (decide (z18.1 < (x1.length:Int))) (
(ix x1 z18.1).bind fun a19 =>
(x1[z18.1.toNat]?).bind fun a20 =>
(some ((BQ Lk x2 a20).getD (ByteArray.empty,false,ByteArray.empty,0),(BQ Lk x2 a20).isSome)).bind fun a21 =>
Bl (decide ((z18.2.length+[(a20,a21.1.2.1,a21.1.2.2.1,a21.1.2.2.2)].length) * 48<=140737488355328)) <|
some (.inl ((IntKind.wrap .i64 (z18.1+1)),(z18.2 ++ [(a20,a21.1.2.1,a21.1.2.2.1,a21.1.2.2.2)])))) (
some (.inr z18.2))
noncomputable def Rj (k:Nat)(x1:(List ByteArray))(x2:Ax):Option Bu :=
(AX (Ju k x1 x2) k (0,([]:List Ht))).bind fun y22 =>
some y22
def br:AZ:=⟨[.pt 1000000 0,.sl .u 1000001],[(1000000,.bx 59 [.mp 1000002]),(1000001,.ar 9 (.str .nil)),(1000002,.mp ⟨.s,true,AG⟩)]⟩
def Xc:List Al:=[.tl (.str .nil),.tm ⟨.s,true,AG⟩]
def bZ:List AY:=[⟨.sl .u 500000,[(500000,.ar 41 AG)],[.tl AG]⟩]
def cz:An:=.sq (.nd) (.sq (.nd) (.sq (.nd) (.sq (.sq (.nd) (.lp [0,11,12] [] ⟨[(5,.sl .n 300800),(13,.i .i64)],[(300800,.ar 41 AG)]⟩ [.ti,.tl AG] [(2,⟨[(5,.sl .n 300825)],[(300825,.ar 41 AG)]⟩)] [[.tl AG]] (.nd))) (.nd))))
theorem bI (k:Nat)(y:Tup Xc):EX Tryd.f18 br Xc [1000000,1000001,1000002] bZ cz [] k y=Rj k y.1 y.2:=by kernel_rfl
noncomputable def bJ (k:Nat):Ar Tryd.prog:=CK 18 Tryd.func18 (bI k)
noncomputable def NH (k:Nat)(x11:Ba)(x12:(List ByteArray))(x14:Ac)(z49:(Int × Bu)):Option ((Int × Bu) ⊕ Bu) :=
cond (decide (z49.1 < (x12.length:Int))) (
(((ix x12 z49.1).bind fun a50 =>
(x12[z49.1.toNat]?).bind fun a51 =>
(eP k a51 x11 x14).bind fun y52 =>
cond y52.2.2.2 (
(ix z49.2 z49.1).bind fun a53 =>
((z49.2[z49.1.toNat]?).bind fun a54=>some (a51,(!y52.2.1),y52.2.2.1,0)).bind fun a55 =>
some (z49.2.set z49.1.toNat a55)) (
some z49.2):Option Bu)).bind fun y56 =>
some (.inl ((IntKind.wrap .i64 (z49.1+1)),y56))) (
some (.inr z49.2))
noncomputable def Rz (k:Nat)(x1:Int)(x2:Int)(x3:Int)(x4:Bool)(x5:Bool)(x6:Int)(x7:Ac)(x8:Int)(x9:Bool)(x10:Int)(x11:Ba)(x12:(List ByteArray))(x13:Int)(x14:Ac)(x15:Ax):Option Bu :=
(Rj k x12 x15).bind fun y2 =>
(AX (NH k x11 x12 x14) k (0,y2)).bind fun y57 =>
some y57
def di:AZ:=⟨[.pt 1000000 0,.pt 1000001 0,.sl .u 1000002],[(1000000,.bx 53 [.i .i64,.i .i64,.i .i64,.b,.pt 1000003 0,.b,.mp 1000004,.i .i64,.fz .u AD,.i .u32,.b,.i .i64]),(1000001,.bx 89 [.sl .u 1000005,.fz .u AL]),(1000002,.ar 9 (.str .nil)),(1000003,.bx 59 [.mp 1000006]),(1000004,.bx 3000000 [.i .i64,.pt 1000001 0]),(1000005,.ar 91 AD),(1000006,.mp ⟨.s,true,AG⟩)]⟩
def Xk:List Al:=[.ti,.ti,.ti,.tb,.tb,.ti,.tl AD,.ti,.tb,.ti,.tl AL,.tl (.str .nil),.ti,.tl AD,.tm ⟨.s,true,AG⟩]
def cD:List AY:=[⟨.sl .u 500000,[(500000,.ar 41 AG)],[.tl AG]⟩]
def bn:An:=.sq (.nd) (.sq (.nd) (.sq (.sq (.nd) (.lp [1,7,18,19] [] ⟨[(20,.i .i64)],[(401700,.ar 41 AG)]⟩ [.ti,.tl AG] [(2,⟨[],[(401700,.ar 41 AG)]⟩)] [[.tl AG]] (.sq (.nd) (.sq (.nd) (.jn [20] [] [(0,⟨[],[(401700,.ar 41 AG)]⟩)] [[.tl AG]] (.nd) (.nd)))))) (.nd)))
theorem bk (k:Nat)(y:Tup Xk):EX Tryd.f36 di Xk [1000000,1000001,1000002,1000003,1000004,1000005,1000006] cD bn [bJ k,gf k] k y=Rz k y.1 y.2.1 y.2.2.1 y.2.2.2.1 y.2.2.2.2.1 y.2.2.2.2.2.1 y.2.2.2.2.2.2.1 y.2.2.2.2.2.2.2.1 y.2.2.2.2.2.2.2.2.1 y.2.2.2.2.2.2.2.2.2.1 y.2.2.2.2.2.2.2.2.2.2.1 y.2.2.2.2.2.2.2.2.2.2.2.1 y.2.2.2.2.2.2.2.2.2.2.2.2.1 y.2.2.2.2.2.2.2.2.2.2.2.2.2.1 y.2.2.2.2.2.2.2.2.2.2.2.2.2.2:=by kernel_rfl
noncomputable def cJ (k:Nat):Ar Tryd.prog:=CK 36 Tryd.func36 (bk k)
noncomputable def Oo (k:Nat)(x1:Bu)(x2:Bu)(z25:Int):Option (Int ⊕ (Unit ⊕ Unit)) :=
cond (decide (z25 < (x1.length:Int))) (
(ix x1 z25).bind fun a26 =>
(x1[z25.toNat]?).bind fun a27 =>
(ix x2 z25).bind fun a28 =>
(x2[z25.toNat]?).bind fun a29 =>
cond (!((a27.1.toList == a29.1.toList) && ((a27.2.1 == a29.2.1) && ((a27.2.2.1.toList == a29.2.2.1.toList) && ((a27.2.2.2 == a29.2.2.2) && true))))) (
some (.inr (.inl ()))) (
some (.inl (IntKind.wrap .i64 (z25+1))))) (
some (.inr (.inr ())))
noncomputable def SQ (k:Nat)(x1:Bu)(x2:Bu):Option Bool :=
cond ((x1.length:Int) != (x2.length:Int)) (
some false) (
(AX (Oo k x1 x2) k 0).bind fun y30 =>
Aq (fun y31 =>
some false) (fun y32 =>
some true) y30)
def cj:AZ:=⟨[.sl .u 1000000,.sl .u 1000001],[(1000000,.ar 41 AG),(1000001,.ar 41 AG)]⟩
def YG:List Al:=[.tl AG,.tl AG]
def eD:List AY:=[⟨.b,[],[.tb]⟩]
def ab:An:=.sq (.nd) (.sq (.nd) (.sq (.sq (.nd) (.lp [0,1,12] [] ⟨[(13,.i .i64)],[]⟩ [.ti] [(1,⟨[(4,.lb false)],[]⟩),(2,⟨[],[]⟩)] [[],[]] (.sq (.nd) (.sq (.nd) (.sq (.sq (.nd) (.sq (.mk [] [0,0,3,7,0,0,48,112,255]) (.nd))) (.nd)))))) (.nd)))
theorem ai (k:Nat)(y:Tup YG):EX Tryd.f35 cj YG [1000000,1000001] eD ab [] k y=SQ k y.1 y.2:=by kernel_rfl
noncomputable def bd (k:Nat):Ar Tryd.prog:=CK 35 Tryd.func35 (ai k)
noncomputable def Rw (k:Nat)(x1:Int)(x2:Int)(x3:ByteArray)(x4:ByteArray)(x5:Int)(x6:(List Int))(x7:Int)(x8:Int)(x9:Int)(x10:Int)(x11:Int)(x12:Int)(x13:Int)(x14:(List ByteArray))(x15:(List ByteArray))(x16:Int)(x17:Int)(x18:Int)(x19:Bool)(x20:Bool)(x21:Int)(x22:Ac)(x23:Int)(x24:Bool)(x25:Int)(x26:(List ByteArray))(x27:Bu)(x28:Ba)(x29:Int)(x30:Ac)(x31:Ax):Option ((Bool × Int × Int × Int × Bool × Bool × Int × Ac × Int × Bool × Int × Ba × Int × Ax × Ac) ⊕ (Bool × Int × Int × Int × Bool × Bool × Int × Ac × Int × Bool × Int × Ba × Ac × Ax)) :=
cond (x1 == 2) (
(cH k x3 x4 x28 x30).bind fun y6 =>
some (.inl (((y6.1 == 0) == (x10 == 0)),x16,x17,x18,x19,x20,x21,x22,x23,x24,x25,y6.2.1,x29,x31,y6.2.2))) (
cond (x1 == 3) (
(fM k x3 x28 x30).bind fun y7 =>
some (.inl (((y7.1 == 0) == (x10 == 0)),x16,x17,x18,x19,x20,x21,x22,x23,x24,x25,y7.2.1,x29,x31,y7.2.2))) (
cond (x1 == 6) (
cond (x29 == x2) (
some (.inr ((x10 == 0),x16,x17,x18,x19,x20,x21,x22,x23,x24,x25,x28,x30,x31))) (
some (.inl ((x10 == 0),x16,x17,x18,x19,x20,x21,x22,x23,x24,x25,x28,x29,x31,x30)))) (
cond (x1 == 4) (
(Ic k x15 x16 x17 x18 x19 x20 x21 x22 x23 x24 x25 x29 x31 x28 x30).bind fun y8 =>
cond y8.1 (
cond (x10 != 0) (
some (.inl (true,x16,x17,x18,x19,x20,x21,x22,x23,x24,x25,x28,x29,y8.2,x30))) (
(Rz k x16 x17 x18 x19 x20 x21 x22 x23 x24 x25 x28 x26 x29 x30 y8.2).bind fun y9 =>
(SQ k x27 y9).bind fun y10 =>
some (.inl (y10,x16,x17,x18,x19,x20,x21,x22,x23,x24,x25,x28,x29,y8.2,x30)))) (
some (.inl (false,x16,x17,x18,x19,x20,x21,x22,x23,x24,x25,x28,x29,y8.2,x30)))) (
((cond (x10 != 0) (
some (true,x16,x17,x18,x19,x20,x21,x22,x23,x24,x25,x31)) (
(cy k x28 x30).bind fun y13 =>
(cW k x12 x16 x17 x18 x19 x20 x21 x22 x23 x24 x25 y13 x29 x31 x28 x30).bind fun y14 =>
some (y14.1,y14.2.1,y14.2.2.1,y14.2.2.2.1,y14.2.2.2.2.1,y14.2.2.2.2.2.1,y14.2.2.2.2.2.2.1,y14.2.2.2.2.2.2.2.1,y14.2.2.2.2.2.2.2.2.1,y14.2.2.2.2.2.2.2.2.2.1,y14.2.2.2.2.2.2.2.2.2.2.1,y14.2.2.2.2.2.2.2.2.2.2.2)):Option Po)).bind fun y15 =>
((((cond (x10 == 0) (
some true) (
some (x10 == 13)):Option Bool)).bind fun y17 =>
cond y17 (
cond (x29 == x2) (
some (.inl ())) (
some (.inr x29))) (
some (.inr x29)):Option (Unit ⊕ Int))).bind fun y18 =>
Aq (fun y19 =>
cond y15.1 (
(dz k x15 y15.2.1 y15.2.2.1 y15.2.2.2.1 y15.2.2.2.2.1 y15.2.2.2.2.2.1 y15.2.2.2.2.2.2.1 y15.2.2.2.2.2.2.2.1 y15.2.2.2.2.2.2.2.2.1 y15.2.2.2.2.2.2.2.2.2.1 y15.2.2.2.2.2.2.2.2.2.2.1 y15.2.2.2.2.2.2.2.2.2.2.2).bind fun y21 =>
some (.inr (y21.1,y15.2.1,y15.2.2.1,y15.2.2.2.1,y15.2.2.2.2.1,y15.2.2.2.2.2.1,y15.2.2.2.2.2.2.1,y15.2.2.2.2.2.2.2.1,y15.2.2.2.2.2.2.2.2.1,y15.2.2.2.2.2.2.2.2.2.1,y15.2.2.2.2.2.2.2.2.2.2.1,x28,x30,y21.2))) (
some (.inr (false,y15.2.1,y15.2.2.1,y15.2.2.2.1,y15.2.2.2.2.1,y15.2.2.2.2.2.1,y15.2.2.2.2.2.2.1,y15.2.2.2.2.2.2.2.1,y15.2.2.2.2.2.2.2.2.1,y15.2.2.2.2.2.2.2.2.2.1,y15.2.2.2.2.2.2.2.2.2.2.1,x28,x30,y15.2.2.2.2.2.2.2.2.2.2.2)))) (fun y20 =>
cond y15.1 (
(Ic k x15 y15.2.1 y15.2.2.1 y15.2.2.2.1 y15.2.2.2.2.1 y15.2.2.2.2.2.1 y15.2.2.2.2.2.2.1 y15.2.2.2.2.2.2.2.1 y15.2.2.2.2.2.2.2.2.1 y15.2.2.2.2.2.2.2.2.2.1 y15.2.2.2.2.2.2.2.2.2.2.1 y20 y15.2.2.2.2.2.2.2.2.2.2.2 x28 x30).bind fun y22 =>
some (.inl (y22.1,y15.2.1,y15.2.2.1,y15.2.2.2.1,y15.2.2.2.2.1,y15.2.2.2.2.2.1,y15.2.2.2.2.2.2.1,y15.2.2.2.2.2.2.2.1,y15.2.2.2.2.2.2.2.2.1,y15.2.2.2.2.2.2.2.2.2.1,y15.2.2.2.2.2.2.2.2.2.2.1,x28,y20,y22.2,x30))) (
some (.inl (false,y15.2.1,y15.2.2.1,y15.2.2.2.1,y15.2.2.2.2.1,y15.2.2.2.2.2.1,y15.2.2.2.2.2.2.1,y15.2.2.2.2.2.2.2.1,y15.2.2.2.2.2.2.2.2.1,y15.2.2.2.2.2.2.2.2.2.1,y15.2.2.2.2.2.2.2.2.2.2.1,x28,y20,y15.2.2.2.2.2.2.2.2.2.2.2,x30)))) y18))))
def dw:AZ:=⟨[.pt 1000000 0,.ag [.i .i64,.i .i64,.s,.s,.sl .u 1000001,.i .i64,.fz .u Hc,.i .i64,.i .i64,.i .i64],.ag [.i .i64,.i .i64,.i .u32,.i .i64,.sl .u 1000002,.fz .u (.str .nil),.fz .u (.str .nil)],.pt 1000003 0],[(1000000,.bx 53 [.i .i64,.i .i64,.i .i64,.b,.pt 1000004 0,.b,.mp 1000005,.i .i64,.fz .u AD,.i .u32,.b,.i .i64]),(1000001,.ar 9 (.str .nil)),(1000002,.ar 41 AG),(1000003,.bx 89 [.sl .u 1000006,.fz .u AL]),(1000004,.bx 59 [.mp 1000007]),(1000005,.bx 3000000 [.i .i64,.pt 1000003 0]),(1000006,.ar 91 AD),(1000007,.mp ⟨.s,true,AG⟩)]⟩
def YA:List Al:=[.ti,.ti,.ts,.ts,.ti,.tl Hc,.ti,.ti,.ti,.ti,.ti,.ti,.ti,.tl (.str .nil),.tl (.str .nil),.ti,.ti,.ti,.tb,.tb,.ti,.tl AD,.ti,.tb,.ti,.tl (.str .nil),.tl AG,.tl AL,.ti,.tl AD,.tm ⟨.s,true,AG⟩]
def cF:List AY:=[⟨.b,[(1000000,.bx 53 [.i .i64,.i .i64,.i .i64,.b,.pt 1000004 0,.b,.mp 1000005,.i .i64,.fz .u AD,.i .u32,.b,.i .i64]),(1000003,.bx 89 [.sl .u 500000,.fz .u AL]),(1000004,.bx 59 [.mp 1000007]),(1000005,.bx 3000000 [.i .i64,.pt 1000003 0]),(1000006,.gone),(1000007,.mp ⟨.s,true,AG⟩),(500000,.ar 91 AD)],[.tb,.ti,.ti,.ti,.tb,.tb,.ti,.tl AD,.ti,.tb,.ti,.tl AL,.ti,.tm ⟨.s,true,AG⟩,.tl AD]⟩,⟨.b,[(1000000,.bx 53 [.i .i64,.i .i64,.i .i64,.b,.pt 1000004 0,.b,.mp 1000005,.i .i64,.fz .u AD,.i .u32,.b,.i .i64]),(1000003,.bx 89 [.sl .u 1000006,.fz .u AL]),(1000004,.bx 59 [.mp 1000007]),(1000005,.bx 3000000 []),(1000006,.ar 91 AD),(1000007,.mp ⟨.s,true,AG⟩)],[.tb,.ti,.ti,.ti,.tb,.tb,.ti,.tl AD,.ti,.tb,.ti,.tl AL,.tl AD,.tm ⟨.s,true,AG⟩]⟩]
def aI:An:=.sq (.nd) (.sq (.sq (.nd) (.sq (.nd) (.sq (.sq (.mk [] [0,0,2,0,8,31,63,0,128,384,1023,2047]) (.nd)) (.sq (.nd) (.sq (.sq (.mk [] [0,0,2,7,15,0,32,96,255,511]) (.nd)) (.sq (.nd) (.sq (.sq (.mk [] [0,1,3,7,0,16,63]) (.nd)) (.sq (.nd) (.sq (.sq (.mk [] [0,0,2,7,15,31,63,127,255,511,1023,511,511,511,8703,31231,65535,131071,262143,524287]) (.nd)) (.nd)))))))))) (.jn [0,5,6] [5,6,1000003,1000004,1000005,1000006] [(0,⟨[(9,.b)],[(1000000,.bx 53 [.i .i64,.i .i64,.i .i64,.b,.pt 1000004 0,.b,.mp 1000005,.i .i64,.fz .u AD,.i .u32,.b,.i .i64]),(1000007,.mp ⟨.s,true,AG⟩)]⟩)] [[.tb,.ti,.ti,.ti,.tb,.tb,.ti,.tl AD,.ti,.tb,.ti,.tm ⟨.s,true,AG⟩]] (.mk [] [0,1,3,7,15,15,47,15,143,511,1023,2047]) (.jn [0,6,9] [6,1000000,1000003,1000004,1000006,1000007] [(0,⟨[],[(1000005,.bx 3000000 [])]⟩),(0,⟨[],[(1000005,.bx 3000000 [.i .i64,.pt 1000003 0])]⟩)] [[],[.ti]] (.jn [5] [5,1000005] [(0,⟨[(86,.b)],[]⟩)] [[.tb]] (.nd) (.sq (.mk [] [0,1,3,7,0,16,63]) (.nd))) (.nd))))
theorem dx (k:Nat)(hm:Mo.m=false)(y:Tup YA):EX Tryd.f24 dw YA [1000001,1000002] cF aI [fy k hm,gC k hm,Rr k,cJ k,bd k,iC k,gF k hm,fX k] k y=Rw k y.1 y.2.1 y.2.2.1 y.2.2.2.1 y.2.2.2.2.1 y.2.2.2.2.2.1 y.2.2.2.2.2.2.1 y.2.2.2.2.2.2.2.1 y.2.2.2.2.2.2.2.2.1 y.2.2.2.2.2.2.2.2.2.1 y.2.2.2.2.2.2.2.2.2.2.1 y.2.2.2.2.2.2.2.2.2.2.2.1 y.2.2.2.2.2.2.2.2.2.2.2.2.1 y.2.2.2.2.2.2.2.2.2.2.2.2.2.1 y.2.2.2.2.2.2.2.2.2.2.2.2.2.2.1 y.2.2.2.2.2.2.2.2.2.2.2.2.2.2.2.1 y.2.2.2.2.2.2.2.2.2.2.2.2.2.2.2.2.1 y.2.2.2.2.2.2.2.2.2.2.2.2.2.2.2.2.2.1 y.2.2.2.2.2.2.2.2.2.2.2.2.2.2.2.2.2.2.1 y.2.2.2.2.2.2.2.2.2.2.2.2.2.2.2.2.2.2.2.1 y.2.2.2.2.2.2.2.2.2.2.2.2.2.2.2.2.2.2.2.2.1 y.2.2.2.2.2.2.2.2.2.2.2.2.2.2.2.2.2.2.2.2.2.1 y.2.2.2.2.2.2.2.2.2.2.2.2.2.2.2.2.2.2.2.2.2.2.1 y.2.2.2.2.2.2.2.2.2.2.2.2.2.2.2.2.2.2.2.2.2.2.2.1 y.2.2.2.2.2.2.2.2.2.2.2.2.2.2.2.2.2.2.2.2.2.2.2.2.1 y.2.2.2.2.2.2.2.2.2.2.2.2.2.2.2.2.2.2.2.2.2.2.2.2.2.1 y.2.2.2.2.2.2.2.2.2.2.2.2.2.2.2.2.2.2.2.2.2.2.2.2.2.2.1 y.2.2.2.2.2.2.2.2.2.2.2.2.2.2.2.2.2.2.2.2.2.2.2.2.2.2.2.1 y.2.2.2.2.2.2.2.2.2.2.2.2.2.2.2.2.2.2.2.2.2.2.2.2.2.2.2.2.1 y.2.2.2.2.2.2.2.2.2.2.2.2.2.2.2.2.2.2.2.2.2.2.2.2.2.2.2.2.2.1 y.2.2.2.2.2.2.2.2.2.2.2.2.2.2.2.2.2.2.2.2.2.2.2.2.2.2.2.2.2.2:=by kernel_rfl
noncomputable def cA (k:Nat)(hm:Mo.m=false):Ar Tryd.prog:=CK 24 Tryd.func24 (dx k hm)
noncomputable def Xj (k:Nat)(x1:Int)(x2:Int)(x3:ByteArray)(x4:ByteArray)(x5:Int)(x6:(List Int))(x7:Int)(x8:Int)(x9:Int)(x10:Int)(x11:Int)(x12:Int)(x13:Int)(x14:(List ByteArray))(x15:(List ByteArray))(x16:Int)(x17:Int)(x18:Int)(x19:Bool)(x20:Bool)(x21:Int)(x22:Ac)(x23:Int)(x24:Bool)(x25:Int)(x26:(List ByteArray))(x27:Bu)(x28:Int)(x29:Ax)(x30:Ba)(x31:Ac):Option ((Bool × Int × Int × Int × Bool × Bool × Int × Ac × Int × Bool × Int × Int × Ax) ⊕ LM ⊕ (Bool × Int × Int × Int × Bool × Bool × Int × Ac × Int × Bool × Int × Int × Int × Ax × Ba × Ac)) :=
cond (x1 == 1) (
cond (x10 != 0) (
some (.inl (true,x16,x17,x18,x19,x20,x21,x22,x23,x24,x25,x28,x29))) (
(((aU k).bind fun y7 =>
cond (x28 == (IntKind.wrap .i64 (x21+1))) (
some (.inl ((IntKind.wrap .i64 (x21+1)),y7.1,y7.2))) (
some (.inr (x28,(IntKind.wrap .i64 (x21+1)),y7.1,y7.2))):Option ((Int × Ba × Ac) ⊕ (Int × Int × Ba × Ac)))).bind fun y8 =>
Aq (fun y9 =>
some (.inr (.inl ((x11 == (IntKind.wrap .i64 (x21+1))),x16,x17,x18,x19,x20,(IntKind.wrap .i64 (x21+1)),x22,x23,x24,x25,y9.1,x29,y9.2.1,y9.2.2)))) (fun y10 =>
some (.inr (.inr ((x11 == (IntKind.wrap .i64 (x21+1))),x16,x17,x18,x19,x20,(IntKind.wrap .i64 (x21+1)),x22,x23,x24,x25,y10.1,y10.2.1,x29,y10.2.2.1,y10.2.2.2)))) y8)) (
cond (x1 == 8) (
cond (x10 != 0) (
some (.inl (true,x16,x17,x18,x19,x20,x21,x22,x23,x24,x25,x28,x29))) (
none)) (
((cond (x1 == 9) (
some (x10 == 0)) (
some false):Option Bool)).bind fun y11 =>
cond y11 (
none) (
(Ic k x15 x16 x17 x18 x19 x20 x21 x22 x23 x24 x25 x28 x29 x30 x31).bind fun y12 =>
some (.inl (y12.1,x16,x17,x18,x19,x20,x21,x22,x23,x24,x25,x28,y12.2)))))
def cQ:AZ:=⟨[.pt 1000000 0,.ag [.i .i64,.i .i64,.s,.s,.sl .u 1000001,.i .i64,.fz .u Hc,.i .i64,.i .i64,.i .i64],.ag [.i .i64,.i .i64,.i .u32,.i .i64,.sl .u 1000002,.fz .u (.str .nil),.fz .u (.str .nil)]],[(1000000,.bx 53 [.i .i64,.i .i64,.i .i64,.b,.pt 1000003 0,.b,.mp 1000004,.i .i64,.fz .u AD,.i .u32,.b,.i .i64]),(1000001,.ar 9 (.str .nil)),(1000002,.ar 41 AG),(1000003,.bx 59 [.mp 1000005]),(1000004,.bx 3000000 [.i .i64,.pt 1000006 0]),(1000005,.mp ⟨.s,true,AG⟩),(1000006,.bx 89 [.sl .u 1000007,.fz .u AL]),(1000007,.ar 91 AD)]⟩
def YC:List Al:=[.ti,.ti,.ts,.ts,.ti,.tl Hc,.ti,.ti,.ti,.ti,.ti,.ti,.ti,.tl (.str .nil),.tl (.str .nil),.ti,.ti,.ti,.tb,.tb,.ti,.tl AD,.ti,.tb,.ti,.tl (.str .nil),.tl AG,.ti,.tm ⟨.s,true,AG⟩,.tl AL,.tl AD]
def eC:List AY:=[⟨.b,[(1000000,.bx 53 [.i .i64,.i .i64,.i .i64,.b,.pt 1000003 0,.b,.mp 1000004,.i .i64,.fz .u AD,.i .u32,.b,.i .i64]),(1000003,.bx 59 [.mp 1000005]),(1000004,.bx 3000000 [.i .i64,.pt 1000006 0]),(1000005,.mp ⟨.s,true,AG⟩)],[.tb,.ti,.ti,.ti,.tb,.tb,.ti,.tl AD,.ti,.tb,.ti,.ti,.tm ⟨.s,true,AG⟩]⟩,⟨.b,[(1000000,.bx 53 [.i .i64,.i .i64,.i .i64,.b,.pt 1000003 0,.b,.mp 1000004,.i .i64,.fz .u AD,.i .u32,.b,.i .i64]),(1000003,.bx 59 [.mp 1000005]),(1000004,.bx 3000000 [.i .i64,.pt 500000 0]),(1000005,.mp ⟨.s,true,AG⟩),(500000,.bx 89 [.sl .u 500001,.fz .u AL]),(500001,.ar 91 AD)],[.tb,.ti,.ti,.ti,.tb,.tb,.ti,.tl AD,.ti,.tb,.ti,.ti,.tm ⟨.s,true,AG⟩,.tl AL,.tl AD]⟩,⟨.b,[(1000000,.bx 53 [.i .i64,.i .i64,.i .i64,.b,.pt 1000003 0,.b,.mp 1000004,.i .i64,.fz .u AD,.i .u32,.b,.i .i64]),(1000003,.bx 59 [.mp 1000005]),(1000004,.bx 3000000 [.i .i64,.pt 1000006 0,.i .i64,.pt 500000 0]),(1000005,.mp ⟨.s,true,AG⟩),(500000,.bx 89 [.sl .u 500001,.fz .u AL]),(500001,.ar 91 AD)],[.tb,.ti,.ti,.ti,.tb,.tb,.ti,.tl AD,.ti,.tb,.ti,.ti,.ti,.tm ⟨.s,true,AG⟩,.tl AL,.tl AD]⟩]
def aM:An:=.sq (.nd) (.sq (.sq (.nd) (.sq (.sq (.nd) (.sq (.nd) (.jn [0,5] [5,1000000,1000003,1000005] [(0,⟨[],[(1000004,.bx 3000000 [.i .i64,.pt 300850 0]),(300850,.bx 89 [.sl .u 300851,.fz .u AL]),(300851,.ar 91 AD)]⟩),(0,⟨[],[(1000004,.bx 3000000 [.i .i64,.pt 1000006 0,.i .i64,.pt 300860 0]),(300860,.bx 89 [.sl .u 300861,.fz .u AL]),(300861,.ar 91 AD)]⟩)] [[.ti,.tl AL,.tl AD],[.ti,.ti,.tl AL,.tl AD]] (.mk [] [0,1,3,7,0,16,48,112,0,511]) (.sq (.mk [] [0,1,0,4,12,28,63,127]) (.nd))))) (.sq (.nd) (.sq (.sq (.mk [] [0,1,3,7,15,31,15,15,143,463,1023,2047,4095]) (.nd)) (.jn [0,4,5] [4,5,1000000,1000003,1000004,1000005] [(0,⟨[(54,.b)],[]⟩)] [[.tb]] (.nd) (.nd)))))) (.nd))
theorem dV (k:Nat)(y:Tup YC):EX Tryd.f25 cQ YC [1000001,1000002,1000006,1000007] eC aM [eR k,Rr k] k y=Xj k y.1 y.2.1 y.2.2.1 y.2.2.2.1 y.2.2.2.2.1 y.2.2.2.2.2.1 y.2.2.2.2.2.2.1 y.2.2.2.2.2.2.2.1 y.2.2.2.2.2.2.2.2.1 y.2.2.2.2.2.2.2.2.2.1 y.2.2.2.2.2.2.2.2.2.2.1 y.2.2.2.2.2.2.2.2.2.2.2.1 y.2.2.2.2.2.2.2.2.2.2.2.2.1 y.2.2.2.2.2.2.2.2.2.2.2.2.2.1 y.2.2.2.2.2.2.2.2.2.2.2.2.2.2.1 y.2.2.2.2.2.2.2.2.2.2.2.2.2.2.2.1 y.2.2.2.2.2.2.2.2.2.2.2.2.2.2.2.2.1 y.2.2.2.2.2.2.2.2.2.2.2.2.2.2.2.2.2.1 y.2.2.2.2.2.2.2.2.2.2.2.2.2.2.2.2.2.2.1 y.2.2.2.2.2.2.2.2.2.2.2.2.2.2.2.2.2.2.2.1 y.2.2.2.2.2.2.2.2.2.2.2.2.2.2.2.2.2.2.2.2.1 y.2.2.2.2.2.2.2.2.2.2.2.2.2.2.2.2.2.2.2.2.2.1 y.2.2.2.2.2.2.2.2.2.2.2.2.2.2.2.2.2.2.2.2.2.2.1 y.2.2.2.2.2.2.2.2.2.2.2.2.2.2.2.2.2.2.2.2.2.2.2.1 y.2.2.2.2.2.2.2.2.2.2.2.2.2.2.2.2.2.2.2.2.2.2.2.2.1 y.2.2.2.2.2.2.2.2.2.2.2.2.2.2.2.2.2.2.2.2.2.2.2.2.2.1 y.2.2.2.2.2.2.2.2.2.2.2.2.2.2.2.2.2.2.2.2.2.2.2.2.2.2.1 y.2.2.2.2.2.2.2.2.2.2.2.2.2.2.2.2.2.2.2.2.2.2.2.2.2.2.2.1 y.2.2.2.2.2.2.2.2.2.2.2.2.2.2.2.2.2.2.2.2.2.2.2.2.2.2.2.2.1 y.2.2.2.2.2.2.2.2.2.2.2.2.2.2.2.2.2.2.2.2.2.2.2.2.2.2.2.2.2.1 y.2.2.2.2.2.2.2.2.2.2.2.2.2.2.2.2.2.2.2.2.2.2.2.2.2.2.2.2.2.2:=by kernel_rfl
noncomputable def eL (k:Nat):Ar Tryd.prog:=CK 25 Tryd.func25 (dV k)
noncomputable def SI (k:Nat)(x1:Int)(x2:Int)(x3:ByteArray)(x4:ByteArray)(x5:Int)(x6:(List Int))(x7:Int)(x8:Int)(x9:Int)(x10:Int)(x11:Int)(x12:Int)(x13:Int)(x14:(List ByteArray))(x15:(List ByteArray))(x16:Int)(x17:Int)(x18:Int)(x19:Bool)(x20:Bool)(x21:Int)(x22:Ac)(x23:Int)(x24:Bool)(x25:Int)(x26:(List ByteArray))(x27:Bu)(x28:Int)(x29:Ax)(x30:Ba)(x31:Ac):Option ee :=
((cond (x1 == 11) (
some true) (
cond (x1 == 12) (
some true) (
some (x1 == 13))):Option Bool)).bind fun y9 =>
cond y9 (
((cond (x1 == 12) (
(VN k x16 x17 x18 x19 x20 x21 x22 x23 true x25 x28 x29 x30 x31).bind fun y10 =>
some (.inl (y10.1,y10.2.1,y10.2.2.1,y10.2.2.2.1,y10.2.2.2.2.1,y10.2.2.2.2.2.1,y10.2.2.2.2.2.2.1,y10.2.2.2.2.2.2.2.1,y10.2.2.2.2.2.2.2.2.1,y10.2.2.2.2.2.2.2.2.2))) (
some (.inr (x16,x17,x18,x19,x20,x21,x22,x23,x25))):Option (KU ⊕ (Int × Int × Int × Bool × Bool × Int × Ac × Int × Int)))).bind fun y11 =>
Aq (fun y12 =>
some (.inl (true,y12.1,y12.2.1,y12.2.2.1,y12.2.2.2.1,y12.2.2.2.2.1,y12.2.2.2.2.2.1,y12.2.2.2.2.2.2.1,y12.2.2.2.2.2.2.2.1,y12.2.2.2.2.2.2.2.2.1,y12.2.2.2.2.2.2.2.2.2,x28,x29,x30,x31))) (fun y13 =>
some (.inr (.inl (true,y13.1,y13.2.1,y13.2.2.1,y13.2.2.2.1,y13.2.2.2.2.1,y13.2.2.2.2.2.1,y13.2.2.2.2.2.2.1,y13.2.2.2.2.2.2.2.1,true,y13.2.2.2.2.2.2.2.2,x28,x29,x30,x31)))) y11) (
cond (x1 == 14) (
(Xu k x10 x11 x12 x13 x14 x15 x16 x17 x18 x19 x20 x21 x22 x23 x24 x25 x27 x28 x29 x30 x31).bind fun y14 =>
some (.inr (.inl (y14.1,y14.2.1,y14.2.2.1,y14.2.2.2.1,y14.2.2.2.2.1,y14.2.2.2.2.2.1,y14.2.2.2.2.2.2.1,y14.2.2.2.2.2.2.2.1,y14.2.2.2.2.2.2.2.2.1,y14.2.2.2.2.2.2.2.2.2.1,y14.2.2.2.2.2.2.2.2.2.2.1,y14.2.2.2.2.2.2.2.2.2.2.2.1,y14.2.2.2.2.2.2.2.2.2.2.2.2.1,y14.2.2.2.2.2.2.2.2.2.2.2.2.2,x31)))) (
((cond (decide (x1 < 1)) (
some true) (
some (decide (14 < x1))):Option Bool)).bind fun y15 =>
cond y15 (
some (.inr (.inl ((x10 == 1),x16,x17,x18,x19,x20,x21,x22,x23,x24,x25,x28,x29,x30,x31)))) (
cond (!x20) (
some (.inr (.inl ((x10 == 6),x16,x17,x18,x19,x20,x21,x22,x23,x24,x25,x28,x29,x30,x31)))) (
((cond x24 (
some (x16,x17,x18,x19,x20,x21,x22,x23,true,x25)) (
some (x16,x17,x18,x19,x20,x21,x22,x23,(x1 == 7),x25)):Option KU)).bind fun y16 =>
((cond (x10 == 6) (
some true) (
some (x10 == 7)):Option Bool)).bind fun y18 =>
cond y18 (
none) (
((cond (x1 == 2) (
some (x1 == 2)) (
cond (x1 == 3) (
some (x1 == 3)) (
cond (x1 == 4) (
some (x1 == 4)) (
cond (x1 == 5) (
some (x1 == 5)) (
some (x1 == 6))))):Option Bool)).bind fun y23 =>
cond y23 (
cond (x28 == x2) (
cond (x10 != 9) (
(Rw k x1 x2 x3 x4 x5 x6 x7 x8 x9 x10 x11 x12 x13 x14 x15 y16.1 y16.2.1 y16.2.2.1 y16.2.2.2.1 y16.2.2.2.2.1 y16.2.2.2.2.2.1 y16.2.2.2.2.2.2.1 y16.2.2.2.2.2.2.2.1 y16.2.2.2.2.2.2.2.2.1 y16.2.2.2.2.2.2.2.2.2 x26 x27 x30 x28 x31 x29).bind fun y24 =>
Aq (fun y25 =>
some (.inr (.inl (y25.1,y25.2.1,y25.2.2.1,y25.2.2.2.1,y25.2.2.2.2.1,y25.2.2.2.2.2.1,y25.2.2.2.2.2.2.1,y25.2.2.2.2.2.2.2.1,y25.2.2.2.2.2.2.2.2.1,y25.2.2.2.2.2.2.2.2.2.1,y25.2.2.2.2.2.2.2.2.2.2.1,y25.2.2.2.2.2.2.2.2.2.2.2.2.1,y25.2.2.2.2.2.2.2.2.2.2.2.2.2.1,y25.2.2.2.2.2.2.2.2.2.2.2.1,y25.2.2.2.2.2.2.2.2.2.2.2.2.2.2)))) (fun y26 =>
some (.inr (.inr (.inl (y26.1,y26.2.1,y26.2.2.1,y26.2.2.2.1,y26.2.2.2.2.1,y26.2.2.2.2.2.1,y26.2.2.2.2.2.2.1,y26.2.2.2.2.2.2.2.1,y26.2.2.2.2.2.2.2.2.1,y26.2.2.2.2.2.2.2.2.2.1,y26.2.2.2.2.2.2.2.2.2.2.1,y26.2.2.2.2.2.2.2.2.2.2.2.2.2,y26.2.2.2.2.2.2.2.2.2.2.2.1,y26.2.2.2.2.2.2.2.2.2.2.2.2.1))))) y24) (
some (.inr (.inl (false,y16.1,y16.2.1,y16.2.2.1,y16.2.2.2.1,y16.2.2.2.2.1,y16.2.2.2.2.2.1,y16.2.2.2.2.2.2.1,y16.2.2.2.2.2.2.2.1,y16.2.2.2.2.2.2.2.2.1,y16.2.2.2.2.2.2.2.2.2,x28,x29,x30,x31))))) (
some (.inr (.inl ((x10 == 9),y16.1,y16.2.1,y16.2.2.1,y16.2.2.2.1,y16.2.2.2.2.1,y16.2.2.2.2.2.1,y16.2.2.2.2.2.2.1,y16.2.2.2.2.2.2.2.1,y16.2.2.2.2.2.2.2.2.1,y16.2.2.2.2.2.2.2.2.2,x28,x29,x30,x31))))) (
(Xj k x1 x2 x3 x4 x5 x6 x7 x8 x9 x10 x11 x12 x13 x14 x15 y16.1 y16.2.1 y16.2.2.1 y16.2.2.2.1 y16.2.2.2.2.1 y16.2.2.2.2.2.1 y16.2.2.2.2.2.2.1 y16.2.2.2.2.2.2.2.1 y16.2.2.2.2.2.2.2.2.1 y16.2.2.2.2.2.2.2.2.2 x26 x27 x28 x29 x30 x31).bind fun y27 =>
Aq (fun y28 =>
some (.inr (.inl (y28.1,y28.2.1,y28.2.2.1,y28.2.2.2.1,y28.2.2.2.2.1,y28.2.2.2.2.2.1,y28.2.2.2.2.2.2.1,y28.2.2.2.2.2.2.2.1,y28.2.2.2.2.2.2.2.2.1,y28.2.2.2.2.2.2.2.2.2.1,y28.2.2.2.2.2.2.2.2.2.2.1,y28.2.2.2.2.2.2.2.2.2.2.2.1,y28.2.2.2.2.2.2.2.2.2.2.2.2,x30,x31)))) (fun y29 =>
Aq (fun y30 =>
some (.inr (.inr (.inr (.inl (y30.1,y30.2.1,y30.2.2.1,y30.2.2.2.1,y30.2.2.2.2.1,y30.2.2.2.2.2.1,y30.2.2.2.2.2.2.1,y30.2.2.2.2.2.2.2.1,y30.2.2.2.2.2.2.2.2.1,y30.2.2.2.2.2.2.2.2.2.1,y30.2.2.2.2.2.2.2.2.2.2.1,y30.2.2.2.2.2.2.2.2.2.2.2.1,y30.2.2.2.2.2.2.2.2.2.2.2.2.1,x30,x31,y30.2.2.2.2.2.2.2.2.2.2.2.2.2.1,y30.2.2.2.2.2.2.2.2.2.2.2.2.2.2)))))) (fun y31 =>
some (.inr (.inr (.inr (.inr (y31.1,y31.2.1,y31.2.2.1,y31.2.2.2.1,y31.2.2.2.2.1,y31.2.2.2.2.2.1,y31.2.2.2.2.2.2.1,y31.2.2.2.2.2.2.2.1,y31.2.2.2.2.2.2.2.2.1,y31.2.2.2.2.2.2.2.2.2.1,y31.2.2.2.2.2.2.2.2.2.2.1,y31.2.2.2.2.2.2.2.2.2.2.2.1,y31.2.2.2.2.2.2.2.2.2.2.2.2.1,y31.2.2.2.2.2.2.2.2.2.2.2.2.2.1,x30,x31,y31.2.2.2.2.2.2.2.2.2.2.2.2.2.2.1,y31.2.2.2.2.2.2.2.2.2.2.2.2.2.2.2)))))) y29) y27))))))
def dF:AZ:=⟨[.pt 1000000 0,.ag [.i .i64,.i .i64,.s,.s,.sl .u 1000001,.i .i64,.fz .u Hc,.i .i64,.i .i64,.i .i64],.ag [.i .i64,.i .i64,.i .u32,.i .i64,.sl .u 1000002,.fz .u (.str .nil),.fz .u (.str .nil)]],[(1000000,.bx 53 [.i .i64,.i .i64,.i .i64,.b,.pt 1000003 0,.b,.mp 1000004,.i .i64,.fz .u AD,.i .u32,.b,.i .i64]),(1000001,.ar 9 (.str .nil)),(1000002,.ar 41 AG),(1000003,.bx 59 [.mp 1000005]),(1000004,.bx 3000000 [.i .i64,.pt 1000006 0]),(1000005,.mp ⟨.s,true,AG⟩),(1000006,.bx 89 [.sl .u 1000007,.fz .u AL]),(1000007,.ar 91 AD)]⟩
def YB:List Al:=[.ti,.ti,.ts,.ts,.ti,.tl Hc,.ti,.ti,.ti,.ti,.ti,.ti,.ti,.tl (.str .nil),.tl (.str .nil),.ti,.ti,.ti,.tb,.tb,.ti,.tl AD,.ti,.tb,.ti,.tl (.str .nil),.tl AG,.ti,.tm ⟨.s,true,AG⟩,.tl AL,.tl AD]
def aq:List AY:=[⟨.b,[(1000000,.bx 53 [.i .i64,.i .i64,.i .i64,.b,.pt 1000003 0,.b,.mp 500000,.i .i64,.fz .u AD,.i .u32,.b,.i .i64]),(1000003,.bx 59 [.mp 1000005]),(1000004,.bx 3000000 [.i .i64,.pt 1000006 0]),(1000005,.mp ⟨.s,true,AG⟩),(1000006,.bx 89 [.sl .u 1000007,.fz .u AL]),(1000007,.ar 91 AD),(500000,.bx 3000000 [])],[.tb,.ti,.ti,.ti,.tb,.tb,.ti,.tl AD,.ti,.tb,.ti,.ti,.tm ⟨.s,true,AG⟩,.tl AL,.tl AD]⟩,⟨.b,[(1000000,.bx 53 [.i .i64,.i .i64,.i .i64,.b,.pt 1000003 0,.b,.mp 1000004,.i .i64,.fz .u AD,.i .u32,.b,.i .i64]),(1000003,.bx 59 [.mp 1000005]),(1000004,.bx 3000000 [.i .i64,.pt 1000006 0]),(1000005,.mp ⟨.s,true,AG⟩),(1000006,.bx 89 [.sl .u 500000,.fz .u AL]),(1000007,.gone),(500000,.ar 91 AD)],[.tb,.ti,.ti,.ti,.tb,.tb,.ti,.tl AD,.ti,.tb,.ti,.ti,.tm ⟨.s,true,AG⟩,.tl AL,.tl AD]⟩,⟨.b,[(1000000,.bx 53 [.i .i64,.i .i64,.i .i64,.b,.pt 1000003 0,.b,.mp 1000004,.i .i64,.fz .u AD,.i .u32,.b,.i .i64]),(1000003,.bx 59 [.mp 1000005]),(1000004,.bx 3000000 []),(1000005,.mp ⟨.s,true,AG⟩),(1000006,.bx 89 [.sl .u 1000007,.fz .u AL]),(1000007,.ar 91 AD)],[.tb,.ti,.ti,.ti,.tb,.tb,.ti,.tl AD,.ti,.tb,.ti,.tm ⟨.s,true,AG⟩,.tl AL,.tl AD]⟩,⟨.b,[(1000000,.bx 53 [.i .i64,.i .i64,.i .i64,.b,.pt 1000003 0,.b,.mp 1000004,.i .i64,.fz .u AD,.i .u32,.b,.i .i64]),(1000003,.bx 59 [.mp 1000005]),(1000004,.bx 3000000 [.i .i64,.pt 500000 0]),(1000005,.mp ⟨.s,true,AG⟩),(1000006,.bx 89 [.sl .u 1000007,.fz .u AL]),(1000007,.ar 91 AD),(500000,.bx 89 [.sl .u 500001,.fz .u AL]),(500001,.ar 91 AD)],[.tb,.ti,.ti,.ti,.tb,.tb,.ti,.tl AD,.ti,.tb,.ti,.ti,.tm ⟨.s,true,AG⟩,.tl AL,.tl AD,.tl AL,.tl AD]⟩,⟨.b,[(1000000,.bx 53 [.i .i64,.i .i64,.i .i64,.b,.pt 1000003 0,.b,.mp 1000004,.i .i64,.fz .u AD,.i .u32,.b,.i .i64]),(1000003,.bx 59 [.mp 1000005]),(1000004,.bx 3000000 [.i .i64,.pt 1000006 0,.i .i64,.pt 500000 0]),(1000005,.mp ⟨.s,true,AG⟩),(1000006,.bx 89 [.sl .u 1000007,.fz .u AL]),(1000007,.ar 91 AD),(500000,.bx 89 [.sl .u 500001,.fz .u AL]),(500001,.ar 91 AD)],[.tb,.ti,.ti,.ti,.tb,.tb,.ti,.tl AD,.ti,.tb,.ti,.ti,.ti,.tm ⟨.s,true,AG⟩,.tl AL,.tl AD,.tl AL,.tl AD]⟩]
def dv:An:=.sq (.nd) (.sq (.jn [0,4,5] [4,5,1000000,1000003,1000004,1000005,1000006,1000007] [(0,⟨[(10,.b)],[]⟩)] [[.tb]] (.nd) (.sq (.sq (.nd) (.jn [] [1000003,1000004,1000005,1000006,1000007] [(0,⟨[],[(1000000,.bx 53 [.i .i64,.i .i64,.i .i64,.b,.pt 1000003 0,.b,.mp 300450,.i .i64,.fz .u AD,.i .u32,.b,.i .i64]),(300450,.bx 3000000 [])]⟩),(0,⟨[],[(1000000,.bx 53 [.i .i64,.i .i64,.i .i64,.b,.pt 1000003 0,.b,.mp 1000004,.i .i64,.fz .u AD,.i .u32,.lb true,.i .i64])]⟩)] [[.ti,.ti,.ti,.tb,.tb,.ti,.tl AD,.ti,.tb,.ti],[.ti,.ti,.ti,.tb,.tb,.ti,.tl AD,.ti,.ti]] (.nd) (.nd))) (.sq (.nd) (.sq (.nd) (.jn [0,4,5] [4,5,1000000,1000003,1000004,1000005,1000006,1000007] [(0,⟨[(39,.b)],[]⟩)] [[.tb]] (.nd) (.nd)))))) (.jn [0,4,5] [4,5,1000003,1000004,1000005,1000006,1000007] [(0,⟨[],[(1000000,.bx 53 [.i .i64,.i .i64,.i .i64,.b,.pt 1000003 0,.b,.mp 1000004,.i .i64,.fz .u AD,.i .u32,.b,.i .i64])]⟩)] [[.ti,.ti,.ti,.tb,.tb,.ti,.tl AD,.ti,.tb,.ti]] (.nd) (.sq (.jn [0,4,5] [4,5,1000000,1000003,1000004,1000005,1000006,1000007] [(0,⟨[(79,.b)],[]⟩)] [[.tb]] (.nd) (.nd)) (.sq (.sq (.nd) (.jn [0,4,5] [4,5,1000000,1000003,1000004,1000005,1000006,1000007] [(0,⟨[(95,.b)],[]⟩)] [[.tb]] (.nd) (.sq (.sq (.mk [] [0,1,3,7,0,16,63,127,255,255,511,2047]) (.nd)) (.nd)))) (.nd)))))
theorem bM (k:Nat)(hm:Mo.m=false)(y:Tup YB):EX Tryd.f17 dF YB [1000001,1000002] aq dv [Xa k,df k,cA k hm,eL k] k y=SI k y.1 y.2.1 y.2.2.1 y.2.2.2.1 y.2.2.2.2.1 y.2.2.2.2.2.1 y.2.2.2.2.2.2.1 y.2.2.2.2.2.2.2.1 y.2.2.2.2.2.2.2.2.1 y.2.2.2.2.2.2.2.2.2.1 y.2.2.2.2.2.2.2.2.2.2.1 y.2.2.2.2.2.2.2.2.2.2.2.1 y.2.2.2.2.2.2.2.2.2.2.2.2.1 y.2.2.2.2.2.2.2.2.2.2.2.2.2.1 y.2.2.2.2.2.2.2.2.2.2.2.2.2.2.1 y.2.2.2.2.2.2.2.2.2.2.2.2.2.2.2.1 y.2.2.2.2.2.2.2.2.2.2.2.2.2.2.2.2.1 y.2.2.2.2.2.2.2.2.2.2.2.2.2.2.2.2.2.1 y.2.2.2.2.2.2.2.2.2.2.2.2.2.2.2.2.2.2.1 y.2.2.2.2.2.2.2.2.2.2.2.2.2.2.2.2.2.2.2.1 y.2.2.2.2.2.2.2.2.2.2.2.2.2.2.2.2.2.2.2.2.1 y.2.2.2.2.2.2.2.2.2.2.2.2.2.2.2.2.2.2.2.2.2.1 y.2.2.2.2.2.2.2.2.2.2.2.2.2.2.2.2.2.2.2.2.2.2.1 y.2.2.2.2.2.2.2.2.2.2.2.2.2.2.2.2.2.2.2.2.2.2.2.1 y.2.2.2.2.2.2.2.2.2.2.2.2.2.2.2.2.2.2.2.2.2.2.2.2.1 y.2.2.2.2.2.2.2.2.2.2.2.2.2.2.2.2.2.2.2.2.2.2.2.2.2.1 y.2.2.2.2.2.2.2.2.2.2.2.2.2.2.2.2.2.2.2.2.2.2.2.2.2.2.1 y.2.2.2.2.2.2.2.2.2.2.2.2.2.2.2.2.2.2.2.2.2.2.2.2.2.2.2.1 y.2.2.2.2.2.2.2.2.2.2.2.2.2.2.2.2.2.2.2.2.2.2.2.2.2.2.2.2.1 y.2.2.2.2.2.2.2.2.2.2.2.2.2.2.2.2.2.2.2.2.2.2.2.2.2.2.2.2.2.1 y.2.2.2.2.2.2.2.2.2.2.2.2.2.2.2.2.2.2.2.2.2.2.2.2.2.2.2.2.2.2:=by kernel_rfl
noncomputable def cR (k:Nat)(hm:Mo.m=false):Ar Tryd.prog:=CK 17 Tryd.func17 (bM k hm)
noncomputable def Rh (k:Nat)(x1:Int)(x2:Int)(x3:ByteArray)(x4:ByteArray)(x5:Int)(x6:(List Int))(x7:Int)(x8:Int)(x9:Int)(x10:Int)(x11:Int)(x12:Int)(x13:Int)(x14:(List ByteArray))(x15:(List ByteArray))(x16:Int)(x17:Int)(x18:Int)(x19:Bool)(x20:Bool)(x21:Int)(x22:Ac)(x23:Int)(x24:Bool)(x25:Int)(x26:(List ByteArray))(x27:Bu)(x28:Int)(x29:Ax)(x30:Ba)(x31:Ac):Option ee :=
cond x19 (
some (.inl (false,x16,x17,x18,x19,x20,x21,x22,x23,x24,x25,x28,x29,x30,x31))) (
(((SI k x1 x2 x3 x4 x5 x6 x7 x8 x9 x10 x11 x12 x13 x14 x15 x16 x17 x18 x19 x20 x21 x22 x23 x24 x25 x26 x27 x28 x29 x30 x31).bind fun y10 =>
Aq (fun y11 =>
some (.inl (y11.2.1,y11.2.2.1,y11.2.2.2.1,(!y11.1),y11.2.2.2.2.2.1,y11.2.2.2.2.2.2.1,y11.2.2.2.2.2.2.2.1,y11.2.2.2.2.2.2.2.2.1,y11.2.2.2.2.2.2.2.2.2.1,y11.2.2.2.2.2.2.2.2.2.2.1,y11.2.2.2.2.2.2.2.2.2.2.2.1,y11.2.2.2.2.2.2.2.2.2.2.2.2.1,y11.2.2.2.2.2.2.2.2.2.2.2.2.2.1,y11.2.2.2.2.2.2.2.2.2.2.2.2.2.2))) (fun y12 =>
Aq (fun y13 =>
some (.inr (.inl (y13.2.1,y13.2.2.1,y13.2.2.2.1,(!y13.1),y13.2.2.2.2.2.1,y13.2.2.2.2.2.2.1,y13.2.2.2.2.2.2.2.1,y13.2.2.2.2.2.2.2.2.1,y13.2.2.2.2.2.2.2.2.2.1,y13.2.2.2.2.2.2.2.2.2.2.1,y13.2.2.2.2.2.2.2.2.2.2.2.1,y13.2.2.2.2.2.2.2.2.2.2.2.2.1,y13.2.2.2.2.2.2.2.2.2.2.2.2.2.1,y13.2.2.2.2.2.2.2.2.2.2.2.2.2.2)))) (fun y14 =>
Aq (fun y15 =>
some (.inr (.inr (.inl (y15.2.1,y15.2.2.1,y15.2.2.2.1,(!y15.1),y15.2.2.2.2.2.1,y15.2.2.2.2.2.2.1,y15.2.2.2.2.2.2.2.1,y15.2.2.2.2.2.2.2.2.1,y15.2.2.2.2.2.2.2.2.2.1,y15.2.2.2.2.2.2.2.2.2.2.1,y15.2.2.2.2.2.2.2.2.2.2.2.1,y15.2.2.2.2.2.2.2.2.2.2.2.2.1,y15.2.2.2.2.2.2.2.2.2.2.2.2.2))))) (fun y16 =>
Aq (fun y17 =>
some (.inr (.inr (.inr (.inl (y17.2.1,y17.2.2.1,y17.2.2.2.1,(!y17.1),y17.2.2.2.2.2.1,y17.2.2.2.2.2.2.1,y17.2.2.2.2.2.2.2.1,y17.2.2.2.2.2.2.2.2.1,y17.2.2.2.2.2.2.2.2.2.1,y17.2.2.2.2.2.2.2.2.2.2.1,y17.2.2.2.2.2.2.2.2.2.2.2.1,y17.2.2.2.2.2.2.2.2.2.2.2.2.1,y17.2.2.2.2.2.2.2.2.2.2.2.2.2.1,y17.2.2.2.2.2.2.2.2.2.2.2.2.2.2.1,y17.2.2.2.2.2.2.2.2.2.2.2.2.2.2.2.1,y17.2.2.2.2.2.2.2.2.2.2.2.2.2.2.2.2)))))) (fun y18 =>
some (.inr (.inr (.inr (.inr (y18.2.1,y18.2.2.1,y18.2.2.2.1,(!y18.1),y18.2.2.2.2.2.1,y18.2.2.2.2.2.2.1,y18.2.2.2.2.2.2.2.1,y18.2.2.2.2.2.2.2.2.1,y18.2.2.2.2.2.2.2.2.2.1,y18.2.2.2.2.2.2.2.2.2.2.1,y18.2.2.2.2.2.2.2.2.2.2.2.1,y18.2.2.2.2.2.2.2.2.2.2.2.2.1,y18.2.2.2.2.2.2.2.2.2.2.2.2.2.1,y18.2.2.2.2.2.2.2.2.2.2.2.2.2.2.1,y18.2.2.2.2.2.2.2.2.2.2.2.2.2.2.2.1,y18.2.2.2.2.2.2.2.2.2.2.2.2.2.2.2.2.1,y18.2.2.2.2.2.2.2.2.2.2.2.2.2.2.2.2.2)))))) y16) y14) y12) y10:Option ax)).bind fun y19 =>
Aq (fun y20 =>
some (.inr (.inl ((!y20.2.2.2.1),y20.1,y20.2.1,y20.2.2.1,y20.2.2.2.1,y20.2.2.2.2.1,y20.2.2.2.2.2.1,y20.2.2.2.2.2.2.1,y20.2.2.2.2.2.2.2.1,y20.2.2.2.2.2.2.2.2.1,y20.2.2.2.2.2.2.2.2.2.1,y20.2.2.2.2.2.2.2.2.2.2.1,y20.2.2.2.2.2.2.2.2.2.2.2.1,y20.2.2.2.2.2.2.2.2.2.2.2.2.1,y20.2.2.2.2.2.2.2.2.2.2.2.2.2)))) (fun y21 =>
Aq (fun y22 =>
some (.inl ((!y22.2.2.2.1),y22.1,y22.2.1,y22.2.2.1,y22.2.2.2.1,y22.2.2.2.2.1,y22.2.2.2.2.2.1,y22.2.2.2.2.2.2.1,y22.2.2.2.2.2.2.2.1,y22.2.2.2.2.2.2.2.2.1,y22.2.2.2.2.2.2.2.2.2.1,y22.2.2.2.2.2.2.2.2.2.2.1,y22.2.2.2.2.2.2.2.2.2.2.2.1,y22.2.2.2.2.2.2.2.2.2.2.2.2.1,y22.2.2.2.2.2.2.2.2.2.2.2.2.2))) (fun y23 =>
Aq (fun y24 =>
some (.inr (.inr (.inl ((!y24.2.2.2.1),y24.1,y24.2.1,y24.2.2.1,y24.2.2.2.1,y24.2.2.2.2.1,y24.2.2.2.2.2.1,y24.2.2.2.2.2.2.1,y24.2.2.2.2.2.2.2.1,y24.2.2.2.2.2.2.2.2.1,y24.2.2.2.2.2.2.2.2.2.1,y24.2.2.2.2.2.2.2.2.2.2.1,y24.2.2.2.2.2.2.2.2.2.2.2.1,y24.2.2.2.2.2.2.2.2.2.2.2.2))))) (fun y25 =>
Aq (fun y26 =>
some (.inr (.inr (.inr (.inl ((!y26.2.2.2.1),y26.1,y26.2.1,y26.2.2.1,y26.2.2.2.1,y26.2.2.2.2.1,y26.2.2.2.2.2.1,y26.2.2.2.2.2.2.1,y26.2.2.2.2.2.2.2.1,y26.2.2.2.2.2.2.2.2.1,y26.2.2.2.2.2.2.2.2.2.1,y26.2.2.2.2.2.2.2.2.2.2.1,y26.2.2.2.2.2.2.2.2.2.2.2.1,y26.2.2.2.2.2.2.2.2.2.2.2.2.1,y26.2.2.2.2.2.2.2.2.2.2.2.2.2.1,y26.2.2.2.2.2.2.2.2.2.2.2.2.2.2.1,y26.2.2.2.2.2.2.2.2.2.2.2.2.2.2.2)))))) (fun y27 =>
some (.inr (.inr (.inr (.inr ((!y27.2.2.2.1),y27.1,y27.2.1,y27.2.2.1,y27.2.2.2.1,y27.2.2.2.2.1,y27.2.2.2.2.2.1,y27.2.2.2.2.2.2.1,y27.2.2.2.2.2.2.2.1,y27.2.2.2.2.2.2.2.2.1,y27.2.2.2.2.2.2.2.2.2.1,y27.2.2.2.2.2.2.2.2.2.2.1,y27.2.2.2.2.2.2.2.2.2.2.2.1,y27.2.2.2.2.2.2.2.2.2.2.2.2.1,y27.2.2.2.2.2.2.2.2.2.2.2.2.2.1,y27.2.2.2.2.2.2.2.2.2.2.2.2.2.2.1,y27.2.2.2.2.2.2.2.2.2.2.2.2.2.2.2.1,y27.2.2.2.2.2.2.2.2.2.2.2.2.2.2.2.2)))))) y25) y23) y21) y19)
def dD:AZ:=⟨[.pt 1000000 0,.ag [.i .i64,.i .i64,.s,.s,.sl .u 1000001,.i .i64,.fz .u Hc,.i .i64,.i .i64,.i .i64],.ag [.i .i64,.i .i64,.i .u32,.i .i64,.sl .u 1000002,.fz .u (.str .nil),.fz .u (.str .nil)]],[(1000000,.bx 53 [.i .i64,.i .i64,.i .i64,.b,.pt 1000003 0,.b,.mp 1000004,.i .i64,.fz .u AD,.i .u32,.b,.i .i64]),(1000001,.ar 9 (.str .nil)),(1000002,.ar 41 AG),(1000003,.bx 59 [.mp 1000005]),(1000004,.bx 3000000 [.i .i64,.pt 1000006 0]),(1000005,.mp ⟨.s,true,AG⟩),(1000006,.bx 89 [.sl .u 1000007,.fz .u AL]),(1000007,.ar 91 AD)]⟩
def YT:List Al:=[.ti,.ti,.ts,.ts,.ti,.tl Hc,.ti,.ti,.ti,.ti,.ti,.ti,.ti,.tl (.str .nil),.tl (.str .nil),.ti,.ti,.ti,.tb,.tb,.ti,.tl AD,.ti,.tb,.ti,.tl (.str .nil),.tl AG,.ti,.tm ⟨.s,true,AG⟩,.tl AL,.tl AD]
def dr:List AY:=[⟨.b,[(1000000,.bx 53 [.i .i64,.i .i64,.i .i64,.b,.pt 1000003 0,.b,.mp 1000004,.i .i64,.fz .u AD,.i .u32,.b,.i .i64]),(1000003,.bx 59 [.mp 1000005]),(1000004,.bx 3000000 [.i .i64,.pt 1000006 0]),(1000005,.mp ⟨.s,true,AG⟩),(1000006,.bx 89 [.sl .u 500000,.fz .u AL]),(1000007,.gone),(500000,.ar 91 AD)],[.tb,.ti,.ti,.ti,.tb,.tb,.ti,.tl AD,.ti,.tb,.ti,.ti,.tm ⟨.s,true,AG⟩,.tl AL,.tl AD]⟩,⟨.b,[(1000000,.bx 53 [.i .i64,.i .i64,.i .i64,.b,.pt 1000003 0,.b,.mp 500000,.i .i64,.fz .u AD,.i .u32,.b,.i .i64]),(1000003,.bx 59 [.mp 1000005]),(1000004,.bx 3000000 [.i .i64,.pt 1000006 0]),(1000005,.mp ⟨.s,true,AG⟩),(1000006,.bx 89 [.sl .u 1000007,.fz .u AL]),(1000007,.ar 91 AD),(500000,.bx 3000000 [])],[.tb,.ti,.ti,.ti,.tb,.tb,.ti,.tl AD,.ti,.tb,.ti,.ti,.tm ⟨.s,true,AG⟩,.tl AL,.tl AD]⟩,⟨.b,[(1000000,.bx 53 [.i .i64,.i .i64,.i .i64,.b,.pt 1000003 0,.b,.mp 1000004,.i .i64,.fz .u AD,.i .u32,.b,.i .i64]),(1000003,.bx 59 [.mp 1000005]),(1000004,.bx 3000000 []),(1000005,.mp ⟨.s,true,AG⟩),(1000006,.bx 89 [.sl .u 1000007,.fz .u AL]),(1000007,.ar 91 AD)],[.tb,.ti,.ti,.ti,.tb,.tb,.ti,.tl AD,.ti,.tb,.ti,.tm ⟨.s,true,AG⟩,.tl AL,.tl AD]⟩,⟨.b,[(1000000,.bx 53 [.i .i64,.i .i64,.i .i64,.b,.pt 1000003 0,.b,.mp 1000004,.i .i64,.fz .u AD,.i .u32,.b,.i .i64]),(1000003,.bx 59 [.mp 1000005]),(1000004,.bx 3000000 [.i .i64,.pt 500000 0]),(1000005,.mp ⟨.s,true,AG⟩),(1000006,.bx 89 [.sl .u 1000007,.fz .u AL]),(1000007,.ar 91 AD),(500000,.bx 89 [.sl .u 500001,.fz .u AL]),(500001,.ar 91 AD)],[.tb,.ti,.ti,.ti,.tb,.tb,.ti,.tl AD,.ti,.tb,.ti,.ti,.tm ⟨.s,true,AG⟩,.tl AL,.tl AD,.tl AL,.tl AD]⟩,⟨.b,[(1000000,.bx 53 [.i .i64,.i .i64,.i .i64,.b,.pt 1000003 0,.b,.mp 1000004,.i .i64,.fz .u AD,.i .u32,.b,.i .i64]),(1000003,.bx 59 [.mp 1000005]),(1000004,.bx 3000000 [.i .i64,.pt 1000006 0,.i .i64,.pt 500000 0]),(1000005,.mp ⟨.s,true,AG⟩),(1000006,.bx 89 [.sl .u 1000007,.fz .u AL]),(1000007,.ar 91 AD),(500000,.bx 89 [.sl .u 500001,.fz .u AL]),(500001,.ar 91 AD)],[.tb,.ti,.ti,.ti,.tb,.tb,.ti,.tl AD,.ti,.tb,.ti,.ti,.ti,.tm ⟨.s,true,AG⟩,.tl AL,.tl AD,.tl AL,.tl AD]⟩]
def dm:An:=.sq (.nd) (.sq (.nd) (.jn [0] [] [(0,⟨[],[(1000000,.bx 53 [.i .i64,.i .i64,.i .i64,.b,.pt 1000003 0,.b,.mp 300500,.i .i64,.fz .u AD,.i .u32,.b,.i .i64]),(1000003,.bx 59 [.mp 1000005]),(1000004,.bx 3000000 [.i .i64,.pt 1000006 0]),(1000005,.mp ⟨.s,true,AG⟩),(1000006,.bx 89 [.sl .u 1000007,.fz .u AL]),(1000007,.ar 91 AD),(300500,.bx 3000000 [])]⟩),(0,⟨[],[(1000000,.bx 53 [.i .i64,.i .i64,.i .i64,.b,.pt 1000003 0,.b,.mp 1000004,.i .i64,.fz .u AD,.i .u32,.b,.i .i64]),(1000003,.bx 59 [.mp 1000005]),(1000004,.bx 3000000 [.i .i64,.pt 1000006 0]),(1000005,.mp ⟨.s,true,AG⟩),(1000006,.bx 89 [.sl .u 300510,.fz .u AL]),(1000007,.gone),(300510,.ar 91 AD)]⟩),(0,⟨[],[(1000000,.bx 53 [.i .i64,.i .i64,.i .i64,.b,.pt 1000003 0,.b,.mp 1000004,.i .i64,.fz .u AD,.i .u32,.b,.i .i64]),(1000003,.bx 59 [.mp 1000005]),(1000004,.bx 3000000 []),(1000005,.mp ⟨.s,true,AG⟩),(1000006,.bx 89 [.sl .u 1000007,.fz .u AL]),(1000007,.ar 91 AD)]⟩),(0,⟨[],[(1000000,.bx 53 [.i .i64,.i .i64,.i .i64,.b,.pt 1000003 0,.b,.mp 1000004,.i .i64,.fz .u AD,.i .u32,.b,.i .i64]),(1000003,.bx 59 [.mp 1000005]),(1000004,.bx 3000000 [.i .i64,.pt 300530 0]),(1000005,.mp ⟨.s,true,AG⟩),(1000006,.bx 89 [.sl .u 1000007,.fz .u AL]),(1000007,.ar 91 AD),(300530,.bx 89 [.sl .u 300531,.fz .u AL]),(300531,.ar 91 AD)]⟩),(0,⟨[],[(1000000,.bx 53 [.i .i64,.i .i64,.i .i64,.b,.pt 1000003 0,.b,.mp 1000004,.i .i64,.fz .u AD,.i .u32,.b,.i .i64]),(1000003,.bx 59 [.mp 1000005]),(1000004,.bx 3000000 [.i .i64,.pt 1000006 0,.i .i64,.pt 300540 0]),(1000005,.mp ⟨.s,true,AG⟩),(1000006,.bx 89 [.sl .u 1000007,.fz .u AL]),(1000007,.ar 91 AD),(300540,.bx 89 [.sl .u 300541,.fz .u AL]),(300541,.ar 91 AD)]⟩)] [[.ti,.ti,.ti,.tb,.tb,.ti,.tl AD,.ti,.tb,.ti,.ti,.tm ⟨.s,true,AG⟩,.tl AL,.tl AD],[.ti,.ti,.ti,.tb,.tb,.ti,.tl AD,.ti,.tb,.ti,.ti,.tm ⟨.s,true,AG⟩,.tl AL,.tl AD],[.ti,.ti,.ti,.tb,.tb,.ti,.tl AD,.ti,.tb,.ti,.tm ⟨.s,true,AG⟩,.tl AL,.tl AD],[.ti,.ti,.ti,.tb,.tb,.ti,.tl AD,.ti,.tb,.ti,.ti,.tm ⟨.s,true,AG⟩,.tl AL,.tl AD,.tl AL,.tl AD],[.ti,.ti,.ti,.tb,.tb,.ti,.tl AD,.ti,.tb,.ti,.ti,.ti,.tm ⟨.s,true,AG⟩,.tl AL,.tl AD,.tl AL,.tl AD]] (.nd) (.nd)))
theorem aX (k:Nat)(hm:Mo.m=false)(y:Tup YT):EX Tryd.f10 dD YT [1000001,1000002] dr dm [cR k hm] k y=Rh k y.1 y.2.1 y.2.2.1 y.2.2.2.1 y.2.2.2.2.1 y.2.2.2.2.2.1 y.2.2.2.2.2.2.1 y.2.2.2.2.2.2.2.1 y.2.2.2.2.2.2.2.2.1 y.2.2.2.2.2.2.2.2.2.1 y.2.2.2.2.2.2.2.2.2.2.1 y.2.2.2.2.2.2.2.2.2.2.2.1 y.2.2.2.2.2.2.2.2.2.2.2.2.1 y.2.2.2.2.2.2.2.2.2.2.2.2.2.1 y.2.2.2.2.2.2.2.2.2.2.2.2.2.2.1 y.2.2.2.2.2.2.2.2.2.2.2.2.2.2.2.1 y.2.2.2.2.2.2.2.2.2.2.2.2.2.2.2.2.1 y.2.2.2.2.2.2.2.2.2.2.2.2.2.2.2.2.2.1 y.2.2.2.2.2.2.2.2.2.2.2.2.2.2.2.2.2.2.1 y.2.2.2.2.2.2.2.2.2.2.2.2.2.2.2.2.2.2.2.1 y.2.2.2.2.2.2.2.2.2.2.2.2.2.2.2.2.2.2.2.2.1 y.2.2.2.2.2.2.2.2.2.2.2.2.2.2.2.2.2.2.2.2.2.1 y.2.2.2.2.2.2.2.2.2.2.2.2.2.2.2.2.2.2.2.2.2.2.1 y.2.2.2.2.2.2.2.2.2.2.2.2.2.2.2.2.2.2.2.2.2.2.2.1 y.2.2.2.2.2.2.2.2.2.2.2.2.2.2.2.2.2.2.2.2.2.2.2.2.1 y.2.2.2.2.2.2.2.2.2.2.2.2.2.2.2.2.2.2.2.2.2.2.2.2.2.1 y.2.2.2.2.2.2.2.2.2.2.2.2.2.2.2.2.2.2.2.2.2.2.2.2.2.2.1 y.2.2.2.2.2.2.2.2.2.2.2.2.2.2.2.2.2.2.2.2.2.2.2.2.2.2.2.1 y.2.2.2.2.2.2.2.2.2.2.2.2.2.2.2.2.2.2.2.2.2.2.2.2.2.2.2.2.1 y.2.2.2.2.2.2.2.2.2.2.2.2.2.2.2.2.2.2.2.2.2.2.2.2.2.2.2.2.2.1 y.2.2.2.2.2.2.2.2.2.2.2.2.2.2.2.2.2.2.2.2.2.2.2.2.2.2.2.2.2.2:=by kernel_rfl
noncomputable def bp (k:Nat)(hm:Mo.m=false):Ar Tryd.prog:=CK 10 Tryd.func10 (aX k hm)
noncomputable def Ki (k:Nat)(y24:ByteArray)(y27:ByteArray)(y28:ByteArray)(z259:(Bool × Int × Int × Int × Int × Bool × Bool × Int × Ac × Int × Bool × Int × Ax)):Option ((Bool × Int × Int × Int × Int × Bool × Bool × Int × Ac × Int × Bool × Int × Ax) ⊕ Po) :=
cond (decide (z259.2.1<=2)) (
((((cond (z259.2.1 == 2) (
some (y28 ++ (⟨#[33]⟩:ByteArray))) (
some y27):Option ByteArray)).bind fun y260 =>
(((Vs k 1 0 ByteArray.empty ByteArray.empty ([]:List ByteArray) 0 ([]:List Int) 0 0 0 0 z259.2.1 0 0 ([]:List Ht) ([]:List ByteArray) ([]:List ByteArray) z259.2.2.1 z259.2.2.2.1 z259.2.2.2.2.1 z259.2.2.2.2.2.1 z259.2.2.2.2.2.2.1 z259.2.2.2.2.2.2.2.1 z259.2.2.2.2.2.2.2.2.1 z259.2.2.2.2.2.2.2.2.2.1 z259.2.2.2.2.2.2.2.2.2.2.1 z259.2.2.2.2.2.2.2.2.2.2.2.1 z259.2.2.2.2.2.2.2.2.2.2.2.2).bind fun y261 =>
Aq (fun y262 =>
cond y262.1 (
none) (
none)) (fun y263 =>
Aq (fun y264 =>
cond y264.1 (
none) (
none)) (fun y265 =>
cond y265.1 (
some (z259.1,y265.2.1,y265.2.2.1,y265.2.2.2.1,y265.2.2.2.2.1,y265.2.2.2.2.2.1,y265.2.2.2.2.2.2.1,y265.2.2.2.2.2.2.2.1,y265.2.2.2.2.2.2.2.2.1,y265.2.2.2.2.2.2.2.2.2.1,y265.2.2.2.2.2.2.2.2.2.2.1,y265.2.2.2.2.2.2.2.2.2.2.2.1,y265.2.2.2.2.2.2.2.2.2.2.2.2.1,y265.2.2.2.2.2.2.2.2.2.2.2.2.2.1,y265.2.2.2.2.2.2.2.2.2.2.2.2.2.2)) (
some (false,y265.2.1,y265.2.2.1,y265.2.2.2.1,y265.2.2.2.2.1,y265.2.2.2.2.2.1,y265.2.2.2.2.2.2.1,y265.2.2.2.2.2.2.2.1,y265.2.2.2.2.2.2.2.2.1,y265.2.2.2.2.2.2.2.2.2.1,y265.2.2.2.2.2.2.2.2.2.2.1,y265.2.2.2.2.2.2.2.2.2.2.2.1,y265.2.2.2.2.2.2.2.2.2.2.2.2.1,y265.2.2.2.2.2.2.2.2.2.2.2.2.2.1,y265.2.2.2.2.2.2.2.2.2.2.2.2.2.2))) y263) y261:Option LM)).bind fun y266 =>
(((HW k 2 z259.2.1 y24 y260 ([]:List ByteArray) 0 ([]:List Int) 0 0 0 0 0 0 0 ([]:List Ht) ([]:List ByteArray) ([]:List ByteArray) y266.2.1 y266.2.2.1 y266.2.2.2.1 y266.2.2.2.2.1 y266.2.2.2.2.2.1 y266.2.2.2.2.2.2.1 y266.2.2.2.2.2.2.2.1 y266.2.2.2.2.2.2.2.2.1 y266.2.2.2.2.2.2.2.2.2.1 y266.2.2.2.2.2.2.2.2.2.2.1 y266.2.2.2.2.2.2.2.2.2.2.2.1 y266.2.2.2.2.2.2.2.2.2.2.2.2.1 y266.2.2.2.2.2.2.2.2.2.2.2.2.2.1 y266.2.2.2.2.2.2.2.2.2.2.2.2.2.2).bind fun y267 =>
Aq (fun y268 =>
cond y268.1 (
some (y266.1,y268.2.1,y268.2.2.1,y268.2.2.2.1,y268.2.2.2.2.1,y268.2.2.2.2.2.1,y268.2.2.2.2.2.2.1,y268.2.2.2.2.2.2.2.1,y268.2.2.2.2.2.2.2.2.1,y268.2.2.2.2.2.2.2.2.2.1,y268.2.2.2.2.2.2.2.2.2.2.1,y268.2.2.2.2.2.2.2.2.2.2.2.1,y268.2.2.2.2.2.2.2.2.2.2.2.2.1,y268.2.2.2.2.2.2.2.2.2.2.2.2.2.1,y268.2.2.2.2.2.2.2.2.2.2.2.2.2.2)) (
some (false,y268.2.1,y268.2.2.1,y268.2.2.2.1,y268.2.2.2.2.1,y268.2.2.2.2.2.1,y268.2.2.2.2.2.2.1,y268.2.2.2.2.2.2.2.1,y268.2.2.2.2.2.2.2.2.1,y268.2.2.2.2.2.2.2.2.2.1,y268.2.2.2.2.2.2.2.2.2.2.1,y268.2.2.2.2.2.2.2.2.2.2.2.1,y268.2.2.2.2.2.2.2.2.2.2.2.2.1,y268.2.2.2.2.2.2.2.2.2.2.2.2.2.1,y268.2.2.2.2.2.2.2.2.2.2.2.2.2.2))) (fun y269 =>
Aq (fun y270 =>
cond y270.1 (
none) (
none)) (fun y271 =>
Aq (fun y272 =>
cond y272.1 (
none) (
none)) (fun y273 =>
Aq (fun y274 =>
cond y274.1 (
some (y266.1,y274.2.1,y274.2.2.1,y274.2.2.2.1,y274.2.2.2.2.1,y274.2.2.2.2.2.1,y274.2.2.2.2.2.2.1,y274.2.2.2.2.2.2.2.1,y274.2.2.2.2.2.2.2.2.1,y274.2.2.2.2.2.2.2.2.2.1,y274.2.2.2.2.2.2.2.2.2.2.1,y274.2.2.2.2.2.2.2.2.2.2.2.1,y274.2.2.2.2.2.2.2.2.2.2.2.2.1,y274.2.2.2.2.2.2.2.2.2.2.2.2.2.2.2.1,y274.2.2.2.2.2.2.2.2.2.2.2.2.2.2.2.2)) (
some (false,y274.2.1,y274.2.2.1,y274.2.2.2.1,y274.2.2.2.2.1,y274.2.2.2.2.2.1,y274.2.2.2.2.2.2.1,y274.2.2.2.2.2.2.2.1,y274.2.2.2.2.2.2.2.2.1,y274.2.2.2.2.2.2.2.2.2.1,y274.2.2.2.2.2.2.2.2.2.2.1,y274.2.2.2.2.2.2.2.2.2.2.2.1,y274.2.2.2.2.2.2.2.2.2.2.2.2.1,y274.2.2.2.2.2.2.2.2.2.2.2.2.2.2.2.1,y274.2.2.2.2.2.2.2.2.2.2.2.2.2.2.2.2))) (fun y275 =>
cond y275.1 (
none) (
none)) y273) y271) y269) y267:Option LM)).bind fun y276 =>
(HW k 5 z259.2.1 ByteArray.empty ByteArray.empty ([]:List ByteArray) 0 ([]:List Int) 0 0 0 0 0 (IntKind.wrap .u32 (IntKind.wrap .i64 (2 * z259.2.1))) 0 ([]:List Ht) ([]:List ByteArray) ([]:List ByteArray) y276.2.1 y276.2.2.1 y276.2.2.2.1 y276.2.2.2.2.1 y276.2.2.2.2.2.1 y276.2.2.2.2.2.2.1 y276.2.2.2.2.2.2.2.1 y276.2.2.2.2.2.2.2.2.1 y276.2.2.2.2.2.2.2.2.2.1 y276.2.2.2.2.2.2.2.2.2.2.1 y276.2.2.2.2.2.2.2.2.2.2.2.1 y276.2.2.2.2.2.2.2.2.2.2.2.2.1 y276.2.2.2.2.2.2.2.2.2.2.2.2.2.1 y276.2.2.2.2.2.2.2.2.2.2.2.2.2.2).bind fun y277 =>
Aq (fun y278 =>
cond y278.1 (
some (.inl (y276.1,y278.2.1,y278.2.2.1,y278.2.2.2.1,y278.2.2.2.2.1,y278.2.2.2.2.2.1,y278.2.2.2.2.2.2.1,y278.2.2.2.2.2.2.2.1,y278.2.2.2.2.2.2.2.2.1,y278.2.2.2.2.2.2.2.2.2.1,y278.2.2.2.2.2.2.2.2.2.2.1,y278.2.2.2.2.2.2.2.2.2.2.2.1,y278.2.2.2.2.2.2.2.2.2.2.2.2.1,y278.2.2.2.2.2.2.2.2.2.2.2.2.2.1,y278.2.2.2.2.2.2.2.2.2.2.2.2.2.2))) (
some (.inl (false,y278.2.1,y278.2.2.1,y278.2.2.2.1,y278.2.2.2.2.1,y278.2.2.2.2.2.1,y278.2.2.2.2.2.2.1,y278.2.2.2.2.2.2.2.1,y278.2.2.2.2.2.2.2.2.1,y278.2.2.2.2.2.2.2.2.2.1,y278.2.2.2.2.2.2.2.2.2.2.1,y278.2.2.2.2.2.2.2.2.2.2.2.1,y278.2.2.2.2.2.2.2.2.2.2.2.2.1,y278.2.2.2.2.2.2.2.2.2.2.2.2.2.1,y278.2.2.2.2.2.2.2.2.2.2.2.2.2.2)))) (fun y279 =>
Aq (fun y280 =>
cond y280.1 (
some (.inr (.inl (y276.1,y280.2.1,y280.2.2.1,y280.2.2.2.1,y280.2.2.2.2.1,y280.2.2.2.2.2.1,y280.2.2.2.2.2.2.1,y280.2.2.2.2.2.2.2.1,y280.2.2.2.2.2.2.2.2.1,y280.2.2.2.2.2.2.2.2.2.1,y280.2.2.2.2.2.2.2.2.2.2.1,y280.2.2.2.2.2.2.2.2.2.2.2.2.1)))) (
some (.inr (.inl (false,y280.2.1,y280.2.2.1,y280.2.2.2.1,y280.2.2.2.2.1,y280.2.2.2.2.2.1,y280.2.2.2.2.2.2.1,y280.2.2.2.2.2.2.2.1,y280.2.2.2.2.2.2.2.2.1,y280.2.2.2.2.2.2.2.2.2.1,y280.2.2.2.2.2.2.2.2.2.2.1,y280.2.2.2.2.2.2.2.2.2.2.2.2.1))))) (fun y281 =>
Aq (fun y282 =>
cond y282.1 (
some (.inr (.inl (y276.1,y282.2.1,y282.2.2.1,y282.2.2.2.1,y282.2.2.2.2.1,y282.2.2.2.2.2.1,y282.2.2.2.2.2.2.1,y282.2.2.2.2.2.2.2.1,y282.2.2.2.2.2.2.2.2.1,y282.2.2.2.2.2.2.2.2.2.1,y282.2.2.2.2.2.2.2.2.2.2.1,y282.2.2.2.2.2.2.2.2.2.2.2.1)))) (
some (.inr (.inl (false,y282.2.1,y282.2.2.1,y282.2.2.2.1,y282.2.2.2.2.1,y282.2.2.2.2.2.1,y282.2.2.2.2.2.2.1,y282.2.2.2.2.2.2.2.1,y282.2.2.2.2.2.2.2.2.1,y282.2.2.2.2.2.2.2.2.2.1,y282.2.2.2.2.2.2.2.2.2.2.1,y282.2.2.2.2.2.2.2.2.2.2.2.1))))) (fun y283 =>
Aq (fun y284 =>
cond y284.1 (
some (.inl (y276.1,y284.2.1,y284.2.2.1,y284.2.2.2.1,y284.2.2.2.2.1,y284.2.2.2.2.2.1,y284.2.2.2.2.2.2.1,y284.2.2.2.2.2.2.2.1,y284.2.2.2.2.2.2.2.2.1,y284.2.2.2.2.2.2.2.2.2.1,y284.2.2.2.2.2.2.2.2.2.2.1,y284.2.2.2.2.2.2.2.2.2.2.2.1,y284.2.2.2.2.2.2.2.2.2.2.2.2.1,y284.2.2.2.2.2.2.2.2.2.2.2.2.2.2.2.1,y284.2.2.2.2.2.2.2.2.2.2.2.2.2.2.2.2))) (
some (.inl (false,y284.2.1,y284.2.2.1,y284.2.2.2.1,y284.2.2.2.2.1,y284.2.2.2.2.2.1,y284.2.2.2.2.2.2.1,y284.2.2.2.2.2.2.2.1,y284.2.2.2.2.2.2.2.2.1,y284.2.2.2.2.2.2.2.2.2.1,y284.2.2.2.2.2.2.2.2.2.2.1,y284.2.2.2.2.2.2.2.2.2.2.2.1,y284.2.2.2.2.2.2.2.2.2.2.2.2.1,y284.2.2.2.2.2.2.2.2.2.2.2.2.2.2.2.1,y284.2.2.2.2.2.2.2.2.2.2.2.2.2.2.2.2)))) (fun y285 =>
cond y285.1 (
some (.inr (.inr (.inr (y276.1,y285.2.1,y285.2.2.1,y285.2.2.2.1,y285.2.2.2.2.1,y285.2.2.2.2.2.1,y285.2.2.2.2.2.2.1,y285.2.2.2.2.2.2.2.1,y285.2.2.2.2.2.2.2.2.1,y285.2.2.2.2.2.2.2.2.2.1,y285.2.2.2.2.2.2.2.2.2.2.1,y285.2.2.2.2.2.2.2.2.2.2.2.1,y285.2.2.2.2.2.2.2.2.2.2.2.2.1,y285.2.2.2.2.2.2.2.2.2.2.2.2.2.1,y285.2.2.2.2.2.2.2.2.2.2.2.2.2.2.1,y285.2.2.2.2.2.2.2.2.2.2.2.2.2.2.2.2.1,y285.2.2.2.2.2.2.2.2.2.2.2.2.2.2.2.1,y285.2.2.2.2.2.2.2.2.2.2.2.2.2.2.2.2.2))))) (
some (.inr (.inr (.inr (false,y285.2.1,y285.2.2.1,y285.2.2.2.1,y285.2.2.2.2.1,y285.2.2.2.2.2.1,y285.2.2.2.2.2.2.1,y285.2.2.2.2.2.2.2.1,y285.2.2.2.2.2.2.2.2.1,y285.2.2.2.2.2.2.2.2.2.1,y285.2.2.2.2.2.2.2.2.2.2.1,y285.2.2.2.2.2.2.2.2.2.2.2.1,y285.2.2.2.2.2.2.2.2.2.2.2.2.1,y285.2.2.2.2.2.2.2.2.2.2.2.2.2.1,y285.2.2.2.2.2.2.2.2.2.2.2.2.2.2.1,y285.2.2.2.2.2.2.2.2.2.2.2.2.2.2.2.2.1,y285.2.2.2.2.2.2.2.2.2.2.2.2.2.2.2.1,y285.2.2.2.2.2.2.2.2.2.2.2.2.2.2.2.2.2)))))) y283) y281) y279) y277:Option (LM ⊕ Po ⊕ Po ⊕ (Bool × Int × Int × Int × Bool × Bool × Int × Ac × Int × Bool × Int × Int × Int × Ax × Ba × Ba × Ac × Ac)))).bind fun y286 =>
Aq (fun y287 =>
none) (fun y288 =>
Aq (fun y289 =>
some (.inl (y289.1,(IntKind.wrap .i64 (z259.2.1+1)),y289.2.1,y289.2.2.1,y289.2.2.2.1,y289.2.2.2.2.1,y289.2.2.2.2.2.1,y289.2.2.2.2.2.2.1,y289.2.2.2.2.2.2.2.1,y289.2.2.2.2.2.2.2.2.1,y289.2.2.2.2.2.2.2.2.2.1,y289.2.2.2.2.2.2.2.2.2.2.1,y289.2.2.2.2.2.2.2.2.2.2.2))) (fun y290 =>
Aq (fun y291 =>
some (.inl (y291.1,(IntKind.wrap .i64 (z259.2.1+1)),y291.2.1,y291.2.2.1,y291.2.2.2.1,y291.2.2.2.2.1,y291.2.2.2.2.2.1,y291.2.2.2.2.2.2.1,y291.2.2.2.2.2.2.2.1,y291.2.2.2.2.2.2.2.2.1,y291.2.2.2.2.2.2.2.2.2.1,y291.2.2.2.2.2.2.2.2.2.2.1,y291.2.2.2.2.2.2.2.2.2.2.2))) (fun y292 =>
none) y290) y288) y286) (
some (.inr (z259.1,z259.2.2.1,z259.2.2.2.1,z259.2.2.2.2.1,z259.2.2.2.2.2.1,z259.2.2.2.2.2.2.1,z259.2.2.2.2.2.2.2.1,z259.2.2.2.2.2.2.2.2.1,z259.2.2.2.2.2.2.2.2.2.1,z259.2.2.2.2.2.2.2.2.2.2.1,z259.2.2.2.2.2.2.2.2.2.2.2.1,z259.2.2.2.2.2.2.2.2.2.2.2.2)))
noncomputable def F3 (k:Nat)(x1:Int)(x2:Int)(x3:Int)(x4:Int)(x5:ByteArray)(x6:ByteArray)(x7:Int):Option Bool :=
(F5 k x1 x2 x3).bind fun y2 =>
((cond (decide (y2.2.1 < 4)) (
some (y2.1,4,y2.2.2)) (
some (y2.1,y2.2.1,y2.2.2)):Option (Int × Int × Int))).bind fun y3 =>
(((F6 k y3.1 y3.2.1 y3.2.2).bind fun y7 =>
Aq (fun y8 =>
some (.inl ())) (fun y9 =>
some (.inr (y9.1,y9.2.1,y9.2.2.1,y9.2.2.2.1,y9.2.2.2.2.1,y9.2.2.2.2.2.1,y9.2.2.2.2.2.2.1,y9.2.2.2.2.2.2.2.1,y9.2.2.2.2.2.2.2.2.1,y9.2.2.2.2.2.2.2.2.2.1,y9.2.2.2.2.2.2.2.2.2.2))) y7:Option (Unit ⊕ (Int × Int × Int × Bool × Bool × Int × Ac × Int × Bool × Int × Ax)))).bind fun y10 =>
Aq (fun y11 =>
(((F7 k).bind fun y16 =>
cond (!y16) (
some ()) (
some ()):Option Unit)).bind fun y17 =>
some false) (fun y12 =>
(((F7 k).bind fun y21 =>
cond (!y21) (
some true) (
some false):Option Bool)).bind fun y22 =>
cond y22 (
some false) (
(F8 k x4).bind fun y24 =>
(F9 k x5 4).bind fun y27 =>
(F9 k x6 4).bind fun y28 =>
Bl (decide (y28.size+(⟨#[33]⟩:ByteArray).size<=9223372036854775807)) <|
(((Vs k 14 0 ByteArray.empty ByteArray.empty ([]:List ByteArray) 0 ([]:List Int) 0 0 0 0 0 0 0 ([]:List Ht) ([]:List ByteArray) ([]:List ByteArray) y12.1 y12.2.1 y12.2.2.1 y12.2.2.2.1 y12.2.2.2.2.1 y12.2.2.2.2.2.1 y12.2.2.2.2.2.2.1 y12.2.2.2.2.2.2.2.1 y12.2.2.2.2.2.2.2.2.1 y12.2.2.2.2.2.2.2.2.2.1 y12.2.2.2.2.2.2.2.2.2.2).bind fun y34 =>
Aq (fun y35 =>
some (y35.1,y35.2.1,y35.2.2.1,y35.2.2.2.1,y35.2.2.2.2.1,y35.2.2.2.2.2.1,y35.2.2.2.2.2.2.1,y35.2.2.2.2.2.2.2.1,y35.2.2.2.2.2.2.2.2.1,y35.2.2.2.2.2.2.2.2.2.1,y35.2.2.2.2.2.2.2.2.2.2.1,y35.2.2.2.2.2.2.2.2.2.2.2)) (fun y36 =>
Aq (fun y37 =>
some (y37.1,y37.2.1,y37.2.2.1,y37.2.2.2.1,y37.2.2.2.2.1,y37.2.2.2.2.2.1,y37.2.2.2.2.2.2.1,y37.2.2.2.2.2.2.2.1,y37.2.2.2.2.2.2.2.2.1,y37.2.2.2.2.2.2.2.2.2.1,y37.2.2.2.2.2.2.2.2.2.2.1,y37.2.2.2.2.2.2.2.2.2.2.2)) (fun y38 =>
none) y36) y34:Option Po)).bind fun y39 =>
(AX (Ki k y24 y27 y28) k (y39.1,1,y39.2.1,y39.2.2.1,y39.2.2.2.1,y39.2.2.2.2.1,y39.2.2.2.2.2.1,y39.2.2.2.2.2.2.1,y39.2.2.2.2.2.2.2.1,y39.2.2.2.2.2.2.2.2.1,y39.2.2.2.2.2.2.2.2.2.1,y39.2.2.2.2.2.2.2.2.2.2.1,y39.2.2.2.2.2.2.2.2.2.2.2)).bind fun y293 =>
(((Vs k 1 0 ByteArray.empty ByteArray.empty ([]:List ByteArray) 0 ([]:List Int) 0 0 0 0 3 0 0 ([]:List Ht) ([]:List ByteArray) ([]:List ByteArray) y293.2.1 y293.2.2.1 y293.2.2.2.1 y293.2.2.2.2.1 y293.2.2.2.2.2.1 y293.2.2.2.2.2.2.1 y293.2.2.2.2.2.2.2.1 y293.2.2.2.2.2.2.2.2.1 y293.2.2.2.2.2.2.2.2.2.1 y293.2.2.2.2.2.2.2.2.2.2.1 y293.2.2.2.2.2.2.2.2.2.2.2).bind fun y299 =>
Aq (fun y300 =>
cond y300.1 (
none) (
none)) (fun y301 =>
Aq (fun y302 =>
cond y302.1 (
none) (
none)) (fun y303 =>
cond y303.1 (
some (y293.1,y303.2.1,y303.2.2.1,y303.2.2.2.1,y303.2.2.2.2.1,y303.2.2.2.2.2.1,y303.2.2.2.2.2.2.1,y303.2.2.2.2.2.2.2.1,y303.2.2.2.2.2.2.2.2.1,y303.2.2.2.2.2.2.2.2.2.1,y303.2.2.2.2.2.2.2.2.2.2.1,y303.2.2.2.2.2.2.2.2.2.2.2.1,y303.2.2.2.2.2.2.2.2.2.2.2.2.1,y303.2.2.2.2.2.2.2.2.2.2.2.2.2.1,y303.2.2.2.2.2.2.2.2.2.2.2.2.2.2)) (
some (false,y303.2.1,y303.2.2.1,y303.2.2.2.1,y303.2.2.2.2.1,y303.2.2.2.2.2.1,y303.2.2.2.2.2.2.1,y303.2.2.2.2.2.2.2.1,y303.2.2.2.2.2.2.2.2.1,y303.2.2.2.2.2.2.2.2.2.1,y303.2.2.2.2.2.2.2.2.2.2.1,y303.2.2.2.2.2.2.2.2.2.2.2.1,y303.2.2.2.2.2.2.2.2.2.2.2.2.1,y303.2.2.2.2.2.2.2.2.2.2.2.2.2.1,y303.2.2.2.2.2.2.2.2.2.2.2.2.2.2))) y301) y299:Option LM)).bind fun y304 =>
(((YR k x7 5).bind fun y308 =>
cond (y308 == 0) (
some (y24,true,y27,2)) (
cond (y308 == 1) (
some (y24,true,(y28 ++ (⟨#[33]⟩:ByteArray)),5)) (
cond (y308 == 2) (
some (y24,true,y27,4)) (
cond (y308 == 3) (
some (y24,false,ByteArray.empty,0)) (
some (y24,true,(y28 ++ (⟨#[33]⟩:ByteArray)),4))))):Option Ht)).bind fun y309 =>
cond y304.1 (
(Rh k 4 3 ByteArray.empty ByteArray.empty 0 ([]:List Int) 0 0 0 0 0 0 0 ([]:List ByteArray) ([]:List ByteArray) y304.2.1 y304.2.2.1 y304.2.2.2.1 y304.2.2.2.2.1 y304.2.2.2.2.2.1 y304.2.2.2.2.2.2.1 y304.2.2.2.2.2.2.2.1 y304.2.2.2.2.2.2.2.2.1 y304.2.2.2.2.2.2.2.2.2.1 y304.2.2.2.2.2.2.2.2.2.2.1 [y24] [(y309.1,y309.2.1,y309.2.2.1,y309.2.2.2)] y304.2.2.2.2.2.2.2.2.2.2.2.1 y304.2.2.2.2.2.2.2.2.2.2.2.2.1 y304.2.2.2.2.2.2.2.2.2.2.2.2.2.1 y304.2.2.2.2.2.2.2.2.2.2.2.2.2.2).bind fun y310 =>
Aq (fun y311 =>
some (y311.1 == ((y309.1.toList == y24.toList) && ((y309.2.1 == true) && ((y309.2.2.1.toList == (y28 ++ (⟨#[33]⟩:ByteArray)).toList) && ((y309.2.2.2 == 4) && true)))))) (fun y312 =>
Aq (fun y313 =>
some (y313.1 == ((y309.1.toList == y24.toList) && ((y309.2.1 == true) && ((y309.2.2.1.toList == (y28 ++ (⟨#[33]⟩:ByteArray)).toList) && ((y309.2.2.2 == 4) && true)))))) (fun y314 =>
Aq (fun y315 =>
some (y315.1 == ((y309.1.toList == y24.toList) && ((y309.2.1 == true) && ((y309.2.2.1.toList == (y28 ++ (⟨#[33]⟩:ByteArray)).toList) && ((y309.2.2.2 == 4) && true)))))) (fun y316 =>
Aq (fun y317 =>
some (y317.1 == ((y309.1.toList == y24.toList) && ((y309.2.1 == true) && ((y309.2.2.1.toList == (y28 ++ (⟨#[33]⟩:ByteArray)).toList) && ((y309.2.2.2 == 4) && true)))))) (fun y318 =>
some (y318.1 == ((y309.1.toList == y24.toList) && ((y309.2.1 == true) && ((y309.2.2.1.toList == (y28 ++ (⟨#[33]⟩:ByteArray)).toList) && ((y309.2.2.2 == 4) && true)))))) y316) y314) y312) y310) (
some false))) y10
def A3:AZ:=⟨[.ag [.i .i64,.i .i64,.i .i64],.i .i64,.s,.s,.i .i64],[]⟩
def h3:List Al:=[.ti,.ti,.ti,.ti,.ts,.ts,.ti]
def R3:List AY:=[⟨.b,[],[.tb]⟩]
def n3:An:=.sq (.nd) (.sq (.nd) (.jn [1,2,3,4,5] [] [(0,⟨[],[(5,.bx 23 [.i .i64,.i .i64,.i .i64])]⟩)] [[.ti,.ti,.ti]] (.nd) (.jn [1,2,3,4] [] [(0,⟨[(11,.c (.pointer none))],[]⟩),(0,⟨[(11,.pt 300510 0)],[(300510,.bx 53 [.i .i64,.i .i64,.i .i64,.b,.pt 300511 0,.b,.mp 300512,.i .i64,.fz .u AD,.i .u32,.b,.i .i64]),(300511,.bx 59 [.mp 300513]),(300512,.bx 3000000 []),(300513,.mp ⟨.s,true,AG⟩)]⟩)] [[],[.ti,.ti,.ti,.tb,.tb,.ti,.tl AD,.ti,.tb,.ti,.tm ⟨.s,true,AG⟩]] (.nd) (.sq (.al 11 (.jn [1,2,3,4,11] [] [(0,⟨[(31,.lb true)],[]⟩)] [[]] (.nd) (.nd)) (.jn [1,2,3,4,11] [300510,300511,300512,300513] [(0,⟨[(31,.b)],[]⟩)] [[.tb]] (.nd) (.nd))) (.sq (.nd) (.sq (.nd) (.jn [2,3,4,11,12] [] [(0,⟨[(13,.b)],[(300510,.bx 53 [.i .i64,.i .i64,.i .i64,.b,.pt 300511 0,.b,.mp 300512,.i .i64,.fz .u AD,.i .u32,.b,.i .i64]),(300511,.bx 59 [.mp 300513]),(300512,.bx 3000000 []),(300513,.mp ⟨.s,true,AG⟩)]⟩)] [[.tb,.ti,.ti,.ti,.tb,.tb,.ti,.tl AD,.ti,.tb,.ti,.tm ⟨.s,true,AG⟩]] (.nd) (.sq (.sq (.nd) (.lp [2,3,4,11,12] [] ⟨[(13,.b),(14,.i .i64)],[(300510,.bx 53 [.i .i64,.i .i64,.i .i64,.b,.pt 300511 0,.b,.mp 300512,.i .i64,.fz .u AD,.i .u32,.b,.i .i64]),(300511,.bx 59 [.mp 300513]),(300512,.bx 3000000 []),(300513,.mp ⟨.s,true,AG⟩)]⟩ [.tb,.ti,.ti,.ti,.ti,.tb,.tb,.ti,.tl AD,.ti,.tb,.ti,.tm ⟨.s,true,AG⟩] [(2,⟨[(13,.b)],[(300510,.bx 53 [.i .i64,.i .i64,.i .i64,.b,.pt 300511 0,.b,.mp 300512,.i .i64,.fz .u AD,.i .u32,.b,.i .i64]),(300511,.bx 59 [.mp 300513]),(300512,.bx 3000000 []),(300513,.mp ⟨.s,true,AG⟩)]⟩)] [[.tb,.ti,.ti,.ti,.tb,.tb,.ti,.tl AD,.ti,.tb,.ti,.tm ⟨.s,true,AG⟩]] (.sq (.nd) (.jn [14] [] [(0,⟨[(13,.b)],[(300510,.bx 53 [.i .i64,.i .i64,.i .i64,.b,.pt 300511 0,.b,.mp 300512,.i .i64,.fz .u AD,.i .u32,.b,.i .i64]),(300511,.bx 59 [.mp 300513]),(300512,.bx 3000000 [.i .i64,.pt 301850 0]),(300513,.mp ⟨.s,true,AG⟩),(301850,.bx 89 [.sl .u 301851,.fz .u AL]),(301851,.ar 91 AD)]⟩),(0,⟨[(13,.b)],[(300510,.bx 53 [.i .i64,.i .i64,.i .i64,.b,.pt 300511 0,.b,.mp 301860,.i .i64,.fz .u AD,.i .u32,.b,.i .i64]),(300511,.bx 59 [.mp 300513]),(300513,.mp ⟨.s,true,AG⟩),(301860,.bx 3000000 [])]⟩),(0,⟨[(13,.b)],[(300510,.bx 53 [.i .i64,.i .i64,.i .i64,.b,.pt 300511 0,.b,.mp 300512,.i .i64,.fz .u AD,.i .u32,.b,.i .i64]),(300511,.bx 59 [.mp 300513]),(300512,.bx 3000000 []),(300513,.mp ⟨.s,true,AG⟩)]⟩),(0,⟨[(13,.b)],[(300510,.bx 53 [.i .i64,.i .i64,.i .i64,.b,.pt 300511 0,.b,.mp 300512,.i .i64,.fz .u AD,.i .u32,.b,.i .i64]),(300511,.bx 59 [.mp 300513]),(300512,.bx 3000000 [.i .i64,.pt 301880 0,.i .i64,.pt 301881 0]),(300513,.mp ⟨.s,true,AG⟩),(301880,.bx 89 [.sl .u 301882,.fz .u AL]),(301881,.bx 89 [.sl .u 301883,.fz .u AL]),(301882,.ar 91 AD),(301883,.ar 91 AD)]⟩)] [[.tb,.ti,.ti,.ti,.tb,.tb,.ti,.tl AD,.ti,.tb,.ti,.ti,.tm ⟨.s,true,AG⟩,.tl AL,.tl AD],[.tb,.ti,.ti,.ti,.tb,.tb,.ti,.tl AD,.ti,.tb,.ti,.tm ⟨.s,true,AG⟩],[.tb,.ti,.ti,.ti,.tb,.tb,.ti,.tl AD,.ti,.tb,.ti,.tm ⟨.s,true,AG⟩],[.tb,.ti,.ti,.ti,.tb,.tb,.ti,.tl AD,.ti,.tb,.ti,.ti,.ti,.tm ⟨.s,true,AG⟩,.tl AL,.tl AL,.tl AD,.tl AD]] (.sq (.nd) (.jn [13] [300510,300511,300512,300513] [(0,⟨[(15,.s)],[]⟩)] [[.ts]] (.nd) (.jn [15] [] [(0,⟨[(13,.b)],[(300510,.bx 53 [.i .i64,.i .i64,.i .i64,.b,.pt 300511 0,.b,.mp 300512,.i .i64,.fz .u AD,.i .u32,.b,.i .i64]),(300511,.bx 59 [.mp 300513]),(300512,.bx 3000000 [.i .i64,.pt 302350 0]),(300513,.mp ⟨.s,true,AG⟩),(302350,.bx 89 [.sl .u 302351,.fz .u AL]),(302351,.ar 91 AD)]⟩)] [[.tb,.ti,.ti,.ti,.tb,.tb,.ti,.tl AD,.ti,.tb,.ti,.ti,.tm ⟨.s,true,AG⟩,.tl AL,.tl AD]] (.nd) (.jn [] [] [(0,⟨[(13,.b)],[(300510,.bx 53 [.i .i64,.i .i64,.i .i64,.b,.pt 300511 0,.b,.mp 300512,.i .i64,.fz .u AD,.i .u32,.b,.i .i64]),(300511,.bx 59 [.mp 300513]),(300512,.bx 3000000 [.i .i64,.pt 302350 0]),(300513,.mp ⟨.s,true,AG⟩),(302350,.bx 89 [.sl .u 302450,.fz .u AL]),(302450,.ar 91 AD)]⟩)] [[.tb,.ti,.ti,.ti,.tb,.tb,.ti,.tl AD,.ti,.tb,.ti,.ti,.tm ⟨.s,true,AG⟩,.tl AL,.tl AD]] (.nd) (.nd))))) (.nd))))) (.jn [2,3,4,11,12] [] [(0,⟨[(13,.b)],[(300510,.bx 53 [.i .i64,.i .i64,.i .i64,.b,.pt 300511 0,.b,.mp 300512,.i .i64,.fz .u AD,.i .u32,.b,.i .i64]),(300511,.bx 59 [.mp 300513]),(300512,.bx 3000000 [.i .i64,.pt 302650 0]),(300513,.mp ⟨.s,true,AG⟩),(302650,.bx 89 [.sl .u 302651,.fz .u AL]),(302651,.ar 91 AD)]⟩)] [[.tb,.ti,.ti,.ti,.tb,.tb,.ti,.tl AD,.ti,.tb,.ti,.ti,.tm ⟨.s,true,AG⟩,.tl AL,.tl AD]] (.nd) (.sq (.nd) (.sq (.nd) (.jn [11,12,13,16,17] [16,300510,300511,300512,300513,302650,302651] [(0,⟨[],[(17,.bx 41 [.s,.b,.s,.i .u32])]⟩)] [[.ts,.tb,.ts,.ti]] (.nd) (.sq (.mk [] [0,1,3,3,11,27,3,67,195,511,3,3,3075,8191,16383,32767]) (.nd))))))))))))))
theorem e3 (k:Nat)(hm:Mo.m=false)(y:Tup h3):EX Tryd.f3 A3 h3 [] R3 n3 [C5 k,C6 k,C7 k hm,C8 k,C9 k,gV k,XZ k hm,fD k,bp k hm] k y=F3 k y.1 y.2.1 y.2.2.1 y.2.2.2.1 y.2.2.2.2.1 y.2.2.2.2.2.1 y.2.2.2.2.2.2:=by kernel_rfl
noncomputable def C3 (k:Nat)(hm:Mo.m=false):Ar Tryd.prog:=CK 3 Tryd.func3 (e3 k hm)
end Go.Proofs.YtobfoiomjfdjjaaDoor.N

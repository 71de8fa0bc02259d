/- ChainRaw's plain law. -/
import Derived.Test.YthoimblkpcikdaaGreatDoorPChn
namespace Go.Proofs.YthoimblkpcikdaaGreatDoor.PureChainRaw
open Go.RowKit Go.Proofs.YthoimblkpcikdaaGreatDoor.Mc Go.Proofs.YthoimblkpcikdaaGreatDoor.N Go.Proofs.YthoimblkpcikdaaGreatDoor.Plain Go.Proofs.YthoimblkpcikdaaGreatDoor.PChain Go.Proofs.YthoimblkpcikdaaGreatDoor.PKeep1 Go.Proofs.YthoimblkpcikdaaGreatDoor.PKeep3 Go.Proofs.YthoimblkpcikdaaGreatDoor.PKeep5 Go.Proofs.YthoimblkpcikdaaGreatDoor.PRaw Go.Proofs.YthoimblkpcikdaaGreatDoor.PRaw2
set_option linter.unusedSimpArgs false
set_option linter.unusedVariables false
theorem law (x1:Int)(x2:Int)(x3:Int)(x4:(List (Int × Int × Int × (List (Int × Bool × ByteArray)) × Int)))(x5:(List Int))(g:gH [.int .i64,.int .i64,.int .i64,.sl (.int .u32 (.int .u32 (.int .u32 (.sl (.int .i64 (.bool (.str .nil))) (.int .i64 .nil))))),.sl (.int .u32 .nil)] (x1,x2,x3,x4,x5))(b:YH [.int .i64,.int .i64,.int .i64,.sl (.int .u32 (.int .u32 (.int .u32 (.sl (.int .i64 (.bool (.str .nil))) (.int .i64 .nil))))),.sl (.int .u32 .nil)] (x1,x2,x3,x4,x5)<=1048576):∃ k,F4 k x1 x2 x3 x4 x5=some true:=by
 refine ⟨2000000,?_⟩
 have hK:2000000<=2000000:=Nat.le_refl _
 obtain ⟨h4,h5⟩:=args x1 x2 x3 x4 x5 g b
 have hR:=PCut.NN x1 x2 x3
 obtain ⟨x,hx,Cc,_⟩:=XZ 2000000 hK hR (by omega) x4 h4 x5 h5
 obtain ⟨W,d⟩:=Cc.dev
 unfold F4
 rw [PCut.UQ,Option.bind_some]
 simp only []
 rw [hx,Option.bind_some,alive _ hK,Option.bind_some,cond_true,PKeep4.Jn _ hK d,Option.bind_some,SZ _ hK d,Option.bind_some]
 obtain ⟨h6,h7,h8⟩:=Vs d
 rw [mB _ hK _ _ _ _ _ _ _ h6 (fun h hh=>by have:=gU (h7 h hh); have:=(d.Cc h (h7 h hh)).sp; omega) h8]
 rfl
end Go.Proofs.YthoimblkpcikdaaGreatDoor.PureChainRaw

/- ChainFloorUpto: the statement and its card, out of what its functions compute and the plain law (PureChainFloor). -/
import Derived.Test.YthoimblkpcikdaaGreatDoorCards
import Derived.Test.YthoimblkpcikdaaGreatDoorTie
import Derived.Test.YthoimblkpcikdaaGreatDoorPureChainFloor
import Derived.WalkKit
import Derived.ProofKit
import Derived.OpenShut
import Derived.ShutString
import Derived.ChangeOld
import Derived.Below
import Derived.SizedLaws
import Derived.Deep.DeepHandedRow
import Derived.Lib.LaidU8
namespace Go.Proofs.YthoimblkpcikdaaGreatDoor.chainFloor
open Go.ChangeShapes Go.WideShapes Go.ChangeAt Go.RowKit
open Go.ChangeMaps (open_string shut_string)
open Go.Proofs.YthoimblkpcikdaaGreatDoor.Mc (nA RR OX Jg Sd nA.calls Fl MB FH readable gO Gd Tup)
set_option linter.unusedVariables false
theorem own:ownKnob Tryz.prog.godebug=none:=by kernel_rfl
theorem cc:Rows.laid_unicode_utf8_first=Lib.firstData:=by kernel_rfl
theorem kh:(Rows.laid_unicode_utf8_acceptRanges:DataW Unit)=Lib.acceptData:=by kernel_rfl
theorem sS {W:World}(h:laidMetH Tryz.prog Rows.chainFloorUptoRow.laid W):Lib.Utf8Tabs 1 2 W:=by
 have hM:laidMet Tryz.prog Rows.chainFloorUptoRow.laid W:=h
 have r4:=Lib.laidMet.reads hM (n := "unicode/utf8.acceptRanges") (d:=Rows.laid_unicode_utf8_acceptRanges) (.tail _ (.head _))
 have r3:=Lib.laidMet.reads hM (n := "unicode/utf8.first") (d:=Rows.laid_unicode_utf8_first) (.tail _ (.tail _ (.head _)))
 rw [cc] at r3
 rw [kh] at r4
 exact utf8Tabs_of_reads Tryz.lays260 ⟨by kernel_rfl,by kernel_rfl,by kernel_rfl,by kernel_rfl,by kernel_rfl,by kernel_rfl,by kernel_rfl⟩ r3 r4
theorem bX:(Rows.laid_cachepot_cachepothand_names:DataW Unit)=.agg (N.ES.map fun s=>.lit (.string s.data.toList)):=by kernel_rfl
theorem texts {W:World}(h:laidMetH Tryz.prog Rows.chainFloorUptoRow.laid W):Go.Proofs.YthoimblkpcikdaaGreatDoor.Mc.LF W 0 N.ES:=by
 have hM:laidMet Tryz.prog Rows.chainFloorUptoRow.laid W:=h
 have r0:=Lib.laidMet.reads hM (n := "cachepot/cachepothand.names") (d:=Rows.laid_cachepot_cachepothand_names) (.head _)
 rw [bX] at r0
 exact Go.Proofs.YthoimblkpcikdaaGreatDoor.Mc.UQ (t:=212) (e:=9) (m:=12) r0 (by kernel_rfl) (by kernel_rfl) Tryz.underlying212 Tryz.underlying9 (by kernel_rfl) (by kernel_rfl)
instance mo:Go.Proofs.YthoimblkpcikdaaGreatDoor.Mc.Mo:=⟨false⟩
theorem holds {W:World} (h:laidMetH Tryz.prog Rows.chainFloorUptoRow.laid W):Jg W :=
 Go.Proofs.YthoimblkpcikdaaGreatDoor.Mc.Pg (g0:=0) (g3:=1) (g4:=2) (ss:=N.ES) (by kernel_rfl) (by decide) (by kernel_rfl) (by kernel_rfl) (fun g h0 h1 h2=>Sd fun p hp=>by
   rcases List.mem_cons.1 hp with rfl | hp
   · exact h0
   · rcases List.mem_cons.1 hp with rfl | hp
     · exact h1
     · rcases List.mem_cons.1 hp with rfl | hp
       · exact h2
       · cases hp) (texts h) (sS h)
mutual
theorem Ia {H:Type}:∀ (d:DataW H),Rows.uptoBulk d=Go.Proofs.YthoimblkpcikdaaGreatDoor.Mc.Bo d
 | .lit l=>by cases l <;> rfl
 | .nil=>rfl
 | .ptr d=>by simp only [Rows.uptoBulk,Go.Proofs.YthoimblkpcikdaaGreatDoor.Mc.Bo,Ia d]
 | .slice a b=>by simp only [Rows.uptoBulk,Go.Proofs.YthoimblkpcikdaaGreatDoor.Mc.Bo,Fm a,Fm b]
 | .agg a=>by simp only [Rows.uptoBulk,Go.Proofs.YthoimblkpcikdaaGreatDoor.Mc.Bo,Fm a]
 | .iface _ d=>by simp only [Rows.uptoBulk,Go.Proofs.YthoimblkpcikdaaGreatDoor.Mc.Bo,Ia d]
 | .map a=>by simp only [Rows.uptoBulk,Go.Proofs.YthoimblkpcikdaaGreatDoor.Mc.Bo,Ou a]
 | .held _=>rfl
theorem Fm {H:Type}:∀ (l:List (DataW H)),Rows.uptoBulkAll l=Go.Proofs.YthoimblkpcikdaaGreatDoor.Mc.Fc l
 | []=>rfl
 | d :: r=>by simp only [Rows.uptoBulkAll,Go.Proofs.YthoimblkpcikdaaGreatDoor.Mc.Fc,Ia d,Fm r]
theorem Ou {H:Type}:∀ (l:List (Lit × DataW H)),Rows.uptoBulkEntries l=Go.Proofs.YthoimblkpcikdaaGreatDoor.Mc.QK l
 | []=>rfl
 | x :: r=>by simp only [Rows.uptoBulkEntries,Go.Proofs.YthoimblkpcikdaaGreatDoor.Mc.QK,bJ x,Ou r]
theorem bJ {H:Type}:∀ (x:Lit × DataW H),Rows.uptoBulkEntry x=Go.Proofs.YthoimblkpcikdaaGreatDoor.Mc.YE x
 | (l,d)=>by cases l <;> simp only [Rows.uptoBulkEntry,Go.Proofs.YthoimblkpcikdaaGreatDoor.Mc.YE,Ia d]
end
set_option maxRecDepth 100000 in
theorem ZQ (H:Type)(enc:TypeId × Value->H)(W:World)(base:Nat)(args:Array Value)(ds gs:List (DataW H))(before:List MemPlace)
   (hval:∀ (j:Nat) t v,Tryz.f7.params[j]? = some t->args[j]? = some v->Value.okWide Tryz.prog W .any base t v)
   (hW:DataW.Whole enc Tryz.prog Tryz.f7.params.toList Rows.chainFloorSpec.vars false W args.toList ds gs before) (hk:Rows.uptoSmall H (ds ++ gs)=true) (hL:laidMetH Tryz.prog Rows.chainFloorUptoRow.laid W) :
   Calls Tryz.prog 7 args W fun e W'=>∃ v,e=.returned v/\Rows.chainFloorSpec.post enc Tryz.prog Tryz.f7 false true false false W args v W':=by
 have hW':=hW
 obtain ⟨p,q,hA0,hV,rfl,hfz,hnd⟩:=hW
 have hA:DataW.TrodAll enc Tryz.prog W 0 (fun _=>true) true Tryz.f7.params.toList args.toList ds p:=hA0
 obtain ⟨rfl,rfl⟩:=trodVars_none hV
 simp only [List.append_nil] at hW' hk
 have hb:=of_decide_eq_true hk
 have hD:=hA
 rw [show Tryz.f7.params.toList=[23,38,39,31] from rfl] at hD
 obtain ⟨_,_,d0,_,_,_,_,rfl,_,_,hD⟩:=trodAll_cons hD
 obtain ⟨_,_,d1,_,_,_,_,rfl,_,_,hD⟩:=trodAll_cons hD
 obtain ⟨_,_,d2,_,_,_,_,rfl,_,_,hD⟩:=trodAll_cons hD
 obtain ⟨_,_,d3,_,_,_,_,rfl,_,_,hD⟩:=trodAll_cons hD
 obtain ⟨_,rfl,_⟩:=trodAll_nil hD
 refine (Fl (holds hL) (n:=30) (gs:=[.int .i64,.int .i64,.int .i64,.sl (.int .u32 (.int .u32 (.int .u32 (.sl (.int .i64 (.bool (.str .nil))) (.int .i64 .nil))))),.sl (.int .u32 .nil),.int .u32]) (ss:=N.A7.a) (by kernel_rfl) (fun y gy ky=>?_) (fun j t v h=>hval j t v (by simpa using h)) hA).mono fun e W' ⟨he,bel⟩=>?_
 · obtain ⟨k,hk⟩:=PureChainFloor.law y.1 y.2.1 y.2.2.1 y.2.2.2.1 y.2.2.2.2.1 y.2.2.2.2.2 gy (Nat.le_trans ky (by rw [<- Fm]; exact hb))
   exact (N.C7 k rfl).ok y true hk
 subst he
 exact ⟨_,rfl,_,_,_,[],_,[],hW', trodAll_mk1 (shut_bool Tryz.underlying4 _),FH (by kernel_rfl) bel (by kernel_rfl) hA,rfl,bel.frame _,fun h=>by cases h⟩
noncomputable def Jf (os:Os):World :=
 let w0:=World.holding Tryz.prog os ⟨#[],#[],[]⟩
 let put (h:Array Obj) (g:Nat) (cs:Array Value):Array Obj:=h.modify g fun
   | .cells _ t frozen=>.cells cs t frozen
   | o=>o
 let h0:=put w0.heap 0 (N.ES.map Value.string).toArray
 let h1:=put h0 1 (Lib.firstTab.map fun z=>Value.int .u8 z).toArray
 let h2:=put h1 2 ((List.range 16).flatMap fun i=>[Value.int .u8 (Lib.accLo i),Value.int .u8 (Lib.accHi i)]).toArray
 { w0 with heap:=h2 }
theorem au (os:Os):laidMet Tryz.prog Rows.chainFloorUptoRow.laid ((Jf os).forCall (fun _ _=>0) ⟨#[],#[.agg #[.int .i64 0,.int .i64 0,.int .i64 0],.slice none 0 0,.slice none 0 0,.int .u32 0],[]⟩).memory :=
 laidMet_of_run' 8 (by kernel_rfl) (by kernel_rfl)
theorem reads (os:Os){H:Type}(enc:TypeId × Value->H):∃ places,DataW.whole enc Tryz.prog ((Jf os).forCall (fun _ _=>0) ⟨#[],#[.agg #[.int .i64 0,.int .i64 0,.int .i64 0],.slice none 0 0,.slice none 0 0,.int .u32 0],[]⟩).memory Tryz.f7.params.toList Rows.chainFloorSpec.vars false (#[.agg #[.int .i64 0,.int .i64 0,.int .i64 0],.slice none 0 0,.slice none 0 0,.int .u32 0]:Array Value).toList 8=some ([.agg [.lit (.int .i64 0),.lit (.int .i64 0),.lit (.int .i64 0)],.nil,.nil,.lit (.int .u32 0)],[],places) :=
 ⟨[],by kernel_rfl⟩
set_option maxRecDepth 100000 in
theorem lifted (os:Os) (started:os.Started) (H:Type) (enc:TypeId × Value->H) (F:Stop.Interp) :
   ReturnsInHanded {} Tryz.checked os 7 .any ((Rows.OpenSpec.upto Rows.chainFloorSpec).preRow enc Tryz.prog Tryz.f7 Rows.chainFloorUptoRow.domain false Rows.chainFloorUptoRow.laid) (((Rows.OpenSpec.upto Rows.chainFloorSpec).at F).post enc Tryz.prog Tryz.f7 false true false false):=by
 obtain ⟨places,hx⟩:=reads os enc
 refine returnsInHanded_of_row (C:=Tryz.checked) (s:=Rows.OpenSpec.upto Rows.chainFloorSpec) own started (by kernel_rfl) Tryz.func7
   (witness_row_at (enc:=enc) (C:=Tryz.checked) false (Jf os) #[.agg #[.int .i64 0,.int .i64 0,.int .i64 0],.slice none 0 0,.slice none 0 0,.int .u32 0] rfl (by kernel_rfl) (by kernel_rfl) (by kernel_rfl)
     (OpenSpec.preRow_of_cond 8 hx (by kernel_rfl) (fun k hk=>by cases hk; kernel_rfl) (by kernel_rfl) (au os))) ?_
 intro W base args ds gs before hval hW _ hcond _ hL _ _
 exact ZQ H enc W base args ds gs before hval hW (hcond _ rfl) hL
theorem said:Rows.ChainFloorUptoSaid :=
 OpenClaim.holds_of_cond 7 Tryz.f7 rfl rfl rfl rfl rfl rfl rfl ⟨rfl,rfl,rfl,rfl,rfl⟩ rfl rfl rfl rfl rfl (by kernel_rfl) Tryz.func7 (by kernel_rfl)
   (of_decide_eq_true (by kernel_rfl)) (by unfold Func.isWrapper; first | (rw [if_pos (by decide +kernel)]; kernel_rfl) | (rw [if_neg (by decide +kernel)]; exact ⟨rfl,rfl⟩))
   (fun os started H enc _ F=>by rw [OpenClaim.pre_eq_preRow]; exact lifted os started H enc F)
theorem plain (f:FuncId)(fn:Func)(hf : Tryz.pinned.checked.prog.funcNamed "cachepot/cachepotlaw14.ChainFloor" = some f)(bU:Tryz.pinned.checked.prog.funcs[f]? = some fn) :
   true=Tryz.pinned.checked.prog.looks []/\∀ (j:Nat) t,fn.params[j]? = some t->Tryz.pinned.checked.prog.wantsStandIn t=false:=by
 obtain rfl:f=7:=Option.some.inj ((show Tryz.prog.funcNamed "cachepot/cachepotlaw14.ChainFloor" = some 7 by kernel_rfl).symm.trans hf) |>.symm
 obtain rfl:fn=Tryz.f7:=(Option.some.inj (Tryz.func7.symm.trans bU)).symm
 refine ⟨by kernel_rfl,fun j t ht=>?_⟩
 rw [Tryz.params7] at ht
 have hm:t ∈ [23,38,39,31]:=by simpa using Array.mem_of_getElem? ht
 have hall:([23,38,39,31].all fun u => !Tryz.prog.wantsStandIn u)=true:=by kernel_rfl
 exact (show Tryz.prog.wantsStandIn t=false by simpa using List.all_eq_true.1 hall t hm)
theorem proved:Rows.ChainFloorUptoCardSaid :=
 Claim7.holds_tied_plain_at .later [] _ _ _ _ said (fun _ h=>by cases h) (by kernel_rfl) (fun _ h=>by cases h) chainFloorUpto_row_tie rfl ⟨rfl,rfl⟩ (by kernel_rfl) rfl plain (by kernel_rfl)
#print axioms proved
end Go.Proofs.YthoimblkpcikdaaGreatDoor.chainFloor
namespace Go.Proofs.YthoimblkpcikdaaGreatDoor
theorem chainFloor_holds:Rows.ChainFloorUptoCardSaid:=chainFloor.proved
end Go.Proofs.YthoimblkpcikdaaGreatDoor

/- ChainLinksUpto: the statement and its card, out of what its functions compute and the plain law (PureChainLinks). -/
import Derived.Test.YthoimblkpcikdaaGreatDoorCards
import Derived.Test.YthoimblkpcikdaaGreatDoorTie
import Derived.Test.YthoimblkpcikdaaGreatDoorPureChainLinks
import Derived.WalkKit
import Derived.ProofKit
import Derived.OpenShut
import Derived.ShutString
import Derived.ChangeOld
import Derived.Below
import Derived.SizedLaws
import Derived.Deep.DeepHandedRow
import Derived.Lib.LaidU8
namespace Go.Proofs.YthoimblkpcikdaaGreatDoor.chainLinks
open Go.ChangeShapes Go.WideShapes Go.ChangeAt Go.RowKit
open Go.ChangeMaps (open_string shut_string)
open Go.Proofs.YthoimblkpcikdaaGreatDoor.Mc (lB NT KX Gh Io lB.calls Cz Jp DG readable gH Gd Tup)
set_option linter.unusedVariables false
theorem own:ownKnob Tryz.prog.godebug=none:=by kernel_rfl
theorem Rz:Rows.laid_unicode_utf8_first=Lib.firstData:=by kernel_rfl
theorem bC:(Rows.laid_unicode_utf8_acceptRanges:DataW Unit)=Lib.acceptData:=by kernel_rfl
theorem lE {W:World}(h:laidMetH Tryz.prog Rows.chainLinksUptoRow.laid W):Lib.Utf8Tabs 1 2 W:=by
 have hM:laidMet Tryz.prog Rows.chainLinksUptoRow.laid W:=h
 have r4:=Lib.laidMet.reads hM (n := "unicode/utf8.acceptRanges") (d:=Rows.laid_unicode_utf8_acceptRanges) (.tail _ (.head _))
 have r3:=Lib.laidMet.reads hM (n := "unicode/utf8.first") (d:=Rows.laid_unicode_utf8_first) (.tail _ (.tail _ (.head _)))
 rw [Rz] at r3
 rw [bC] at r4
 exact utf8Tabs_of_reads Tryz.lays260 ⟨by kernel_rfl,by kernel_rfl,by kernel_rfl,by kernel_rfl,by kernel_rfl,by kernel_rfl,by kernel_rfl⟩ r3 r4
theorem Qs:(Rows.laid_cachepot_cachepothand_names:DataW Unit)=.agg (N.DC.map fun s=>.lit (.string s.data.toList)):=by kernel_rfl
theorem texts {W:World}(h:laidMetH Tryz.prog Rows.chainLinksUptoRow.laid W):Go.Proofs.YthoimblkpcikdaaGreatDoor.Mc.Ii W 0 N.DC:=by
 have hM:laidMet Tryz.prog Rows.chainLinksUptoRow.laid W:=h
 have r0:=Lib.laidMet.reads hM (n := "cachepot/cachepothand.names") (d:=Rows.laid_cachepot_cachepothand_names) (.head _)
 rw [Qs] at r0
 exact Go.Proofs.YthoimblkpcikdaaGreatDoor.Mc.Mu (t:=212) (e:=9) (m:=12) r0 (by kernel_rfl) (by kernel_rfl) Tryz.underlying212 Tryz.underlying9 (by kernel_rfl) (by kernel_rfl)
instance mo:Go.Proofs.YthoimblkpcikdaaGreatDoor.Mc.Mo:=⟨false⟩
theorem holds {W:World} (h:laidMetH Tryz.prog Rows.chainLinksUptoRow.laid W):Gh W :=
 Go.Proofs.YthoimblkpcikdaaGreatDoor.Mc.JS (g0:=0) (g3:=1) (g4:=2) (ss:=N.DC) (by kernel_rfl) (by decide) (by kernel_rfl) (by kernel_rfl) (fun g h0 h1 h2=>Io fun p hp=>by
   rcases List.mem_cons.1 hp with rfl | hp
   · exact h0
   · rcases List.mem_cons.1 hp with rfl | hp
     · exact h1
     · rcases List.mem_cons.1 hp with rfl | hp
       · exact h2
       · cases hp) (texts h) (lE h)
mutual
theorem Cw {H:Type}:∀ (d:DataW H),Rows.uptoBulk d=Go.Proofs.YthoimblkpcikdaaGreatDoor.Mc.BW d
 | .lit l=>by cases l <;> rfl
 | .nil=>rfl
 | .ptr d=>by simp only [Rows.uptoBulk,Go.Proofs.YthoimblkpcikdaaGreatDoor.Mc.BW,Cw d]
 | .slice a b=>by simp only [Rows.uptoBulk,Go.Proofs.YthoimblkpcikdaaGreatDoor.Mc.BW,CV a,CV b]
 | .agg a=>by simp only [Rows.uptoBulk,Go.Proofs.YthoimblkpcikdaaGreatDoor.Mc.BW,CV a]
 | .iface _ d=>by simp only [Rows.uptoBulk,Go.Proofs.YthoimblkpcikdaaGreatDoor.Mc.BW,Cw d]
 | .map a=>by simp only [Rows.uptoBulk,Go.Proofs.YthoimblkpcikdaaGreatDoor.Mc.BW,FE a]
 | .held _=>rfl
theorem CV {H:Type}:∀ (l:List (DataW H)),Rows.uptoBulkAll l=Go.Proofs.YthoimblkpcikdaaGreatDoor.Mc.Eb l
 | []=>rfl
 | d :: r=>by simp only [Rows.uptoBulkAll,Go.Proofs.YthoimblkpcikdaaGreatDoor.Mc.Eb,Cw d,CV r]
theorem FE {H:Type}:∀ (l:List (Lit × DataW H)),Rows.uptoBulkEntries l=Go.Proofs.YthoimblkpcikdaaGreatDoor.Mc.Ka l
 | []=>rfl
 | x :: r=>by simp only [Rows.uptoBulkEntries,Go.Proofs.YthoimblkpcikdaaGreatDoor.Mc.Ka,OG x,FE r]
theorem OG {H:Type}:∀ (x:Lit × DataW H),Rows.uptoBulkEntry x=Go.Proofs.YthoimblkpcikdaaGreatDoor.Mc.Tn x
 | (l,d)=>by cases l <;> simp only [Rows.uptoBulkEntry,Go.Proofs.YthoimblkpcikdaaGreatDoor.Mc.Tn,Cw d]
end
set_option maxRecDepth 100000 in
theorem OD (H:Type)(enc:TypeId × Value->H)(W:World)(base:Nat)(args:Array Value)(ds gs:List (DataW H))(before:List MemPlace)
   (hval:∀ (j:Nat) t v,Tryz.f5.params[j]? = some t->args[j]? = some v->Value.okWide Tryz.prog W .any base t v)
   (hW:DataW.Whole enc Tryz.prog Tryz.f5.params.toList Rows.chainLinksSpec.vars false W args.toList ds gs before) (hk:Rows.uptoSmall H (ds ++ gs)=true) (hL:laidMetH Tryz.prog Rows.chainLinksUptoRow.laid W) :
   Calls Tryz.prog 5 args W fun e W'=>∃ v,e=.returned v/\Rows.chainLinksSpec.post enc Tryz.prog Tryz.f5 false true false false W args v W':=by
 have hW':=hW
 obtain ⟨p,q,hA0,hV,rfl,hfz,hnd⟩:=hW
 have hA:DataW.TrodAll enc Tryz.prog W 0 (fun _=>true) true Tryz.f5.params.toList args.toList ds p:=hA0
 obtain ⟨rfl,rfl⟩:=trodVars_none hV
 simp only [List.append_nil] at hW' hk
 have hb:=of_decide_eq_true hk
 have hD:=hA
 rw [show Tryz.f5.params.toList=[23,38,39] from rfl] at hD
 obtain ⟨_,_,d0,_,_,_,_,rfl,_,_,hD⟩:=trodAll_cons hD
 obtain ⟨_,_,d1,_,_,_,_,rfl,_,_,hD⟩:=trodAll_cons hD
 obtain ⟨_,_,d2,_,_,_,_,rfl,_,_,hD⟩:=trodAll_cons hD
 obtain ⟨_,rfl,_⟩:=trodAll_nil hD
 refine (Cz (holds hL) (n:=30) (gs:=[.int .i64,.int .i64,.int .i64,.sl (.int .u32 (.int .u32 (.int .u32 (.sl (.int .i64 (.bool (.str .nil))) (.int .i64 .nil))))),.sl (.int .u32 .nil)]) (ss:=N.A5.a) (by kernel_rfl) (fun y gy ky=>?_) (fun j t v h=>hval j t v (by simpa using h)) hA).mono fun e W' ⟨he,bel⟩=>?_
 · obtain ⟨k,hk⟩:=PureChainLinks.law y.1 y.2.1 y.2.2.1 y.2.2.2.1 y.2.2.2.2 gy (Nat.le_trans ky (by rw [<- CV]; exact hb))
   exact (N.C5 k rfl).ok y true hk
 subst he
 exact ⟨_,rfl,_,_,_,[],_,[],hW', trodAll_mk1 (shut_bool Tryz.underlying4 _),DG (by kernel_rfl) bel (by kernel_rfl) hA,rfl,bel.frame _,fun h=>by cases h⟩
noncomputable def DR (os:Os):World :=
 let w0:=World.holding Tryz.prog os ⟨#[],#[],[]⟩
 let put (h:Array Obj) (g:Nat) (cs:Array Value):Array Obj:=h.modify g fun
   | .cells _ t frozen=>.cells cs t frozen
   | o=>o
 let h0:=put w0.heap 0 (N.DC.map Value.string).toArray
 let h1:=put h0 1 (Lib.firstTab.map fun z=>Value.int .u8 z).toArray
 let h2:=put h1 2 ((List.range 16).flatMap fun i=>[Value.int .u8 (Lib.accLo i),Value.int .u8 (Lib.accHi i)]).toArray
 { w0 with heap:=h2 }
theorem Mj (os:Os):laidMet Tryz.prog Rows.chainLinksUptoRow.laid ((DR os).forCall (fun _ _=>0) ⟨#[],#[.agg #[.int .i64 0,.int .i64 0,.int .i64 0],.slice none 0 0,.slice none 0 0],[]⟩).memory :=
 laidMet_of_run' 8 (by kernel_rfl) (by kernel_rfl)
theorem reads (os:Os){H:Type}(enc:TypeId × Value->H):∃ places,DataW.whole enc Tryz.prog ((DR os).forCall (fun _ _=>0) ⟨#[],#[.agg #[.int .i64 0,.int .i64 0,.int .i64 0],.slice none 0 0,.slice none 0 0],[]⟩).memory Tryz.f5.params.toList Rows.chainLinksSpec.vars false (#[.agg #[.int .i64 0,.int .i64 0,.int .i64 0],.slice none 0 0,.slice none 0 0]:Array Value).toList 8=some ([.agg [.lit (.int .i64 0),.lit (.int .i64 0),.lit (.int .i64 0)],.nil,.nil],[],places) :=
 ⟨[],by kernel_rfl⟩
set_option maxRecDepth 100000 in
theorem lifted (os:Os) (started:os.Started) (H:Type) (enc:TypeId × Value->H) (F:Stop.Interp) :
   ReturnsInHanded {} Tryz.checked os 5 .any ((Rows.OpenSpec.upto Rows.chainLinksSpec).preRow enc Tryz.prog Tryz.f5 Rows.chainLinksUptoRow.domain false Rows.chainLinksUptoRow.laid) (((Rows.OpenSpec.upto Rows.chainLinksSpec).at F).post enc Tryz.prog Tryz.f5 false true false false):=by
 obtain ⟨places,hx⟩:=reads os enc
 refine returnsInHanded_of_row (C:=Tryz.checked) (s:=Rows.OpenSpec.upto Rows.chainLinksSpec) own started (by kernel_rfl) Tryz.func5
   (witness_row_at (enc:=enc) (C:=Tryz.checked) false (DR os) #[.agg #[.int .i64 0,.int .i64 0,.int .i64 0],.slice none 0 0,.slice none 0 0] rfl (by kernel_rfl) (by kernel_rfl) (by kernel_rfl)
     (OpenSpec.preRow_of_cond 8 hx (by kernel_rfl) (fun k hk=>by cases hk; kernel_rfl) (by kernel_rfl) (Mj os))) ?_
 intro W base args ds gs before hval hW _ hcond _ hL _ _
 exact OD H enc W base args ds gs before hval hW (hcond _ rfl) hL
theorem said:Rows.ChainLinksUptoSaid :=
 OpenClaim.holds_of_cond 5 Tryz.f5 rfl rfl rfl rfl rfl rfl rfl ⟨rfl,rfl,rfl,rfl,rfl⟩ rfl rfl rfl rfl rfl (by kernel_rfl) Tryz.func5 (by kernel_rfl)
   (of_decide_eq_true (by kernel_rfl)) (by unfold Func.isWrapper; first | (rw [if_pos (by decide +kernel)]; kernel_rfl) | (rw [if_neg (by decide +kernel)]; exact ⟨rfl,rfl⟩))
   (fun os started H enc _ F=>by rw [OpenClaim.pre_eq_preRow]; exact lifted os started H enc F)
theorem plain (f:FuncId)(fn:Func)(hf : Tryz.pinned.checked.prog.funcNamed "cachepot/cachepotlaw14.ChainLinks" = some f)(ZQ:Tryz.pinned.checked.prog.funcs[f]? = some fn) :
   true=Tryz.pinned.checked.prog.looks []/\∀ (j:Nat) t,fn.params[j]? = some t->Tryz.pinned.checked.prog.wantsStandIn t=false:=by
 obtain rfl:f=5:=Option.some.inj ((show Tryz.prog.funcNamed "cachepot/cachepotlaw14.ChainLinks" = some 5 by kernel_rfl).symm.trans hf) |>.symm
 obtain rfl:fn=Tryz.f5:=(Option.some.inj (Tryz.func5.symm.trans ZQ)).symm
 refine ⟨by kernel_rfl,fun j t ht=>?_⟩
 rw [Tryz.params5] at ht
 have hm:t ∈ [23,38,39]:=by simpa using Array.mem_of_getElem? ht
 have hall:([23,38,39].all fun u => !Tryz.prog.wantsStandIn u)=true:=by kernel_rfl
 exact (show Tryz.prog.wantsStandIn t=false by simpa using List.all_eq_true.1 hall t hm)
theorem proved:Rows.ChainLinksUptoCardSaid :=
 Claim7.holds_tied_plain_at .later [] _ _ _ _ said (fun _ h=>by cases h) (by kernel_rfl) (fun _ h=>by cases h) chainLinksUpto_row_tie rfl ⟨rfl,rfl⟩ (by kernel_rfl) rfl plain (by kernel_rfl)
#print axioms proved
end Go.Proofs.YthoimblkpcikdaaGreatDoor.chainLinks
namespace Go.Proofs.YthoimblkpcikdaaGreatDoor
theorem chainLinks_holds:Rows.ChainLinksUptoCardSaid:=chainLinks.proved
end Go.Proofs.YthoimblkpcikdaaGreatDoor

/- JudgeOld: the statement and its card, out of what its functions compute and the plain law (PureJudgeOld). -/
import Derived.Test.YtobfoiomjfdjjaaDoorCards
import Derived.Test.YtobfoiomjfdjjaaDoorTie
import Derived.Test.YtobfoiomjfdjjaaDoorPureJudgeOld
import Derived.WalkKit
import Derived.ProofKit
import Derived.OpenShut
import Derived.ShutString
import Derived.ChangeOld
import Derived.Below
import Derived.SizedLaws
import Derived.Deep.DeepHandedRow
import Derived.Lib.LaidU8
namespace Go.Proofs.YtobfoiomjfdjjaaDoor.judgeOld
open Go.ChangeShapes Go.WideShapes Go.ChangeAt Go.RowKit
open Go.ChangeMaps (open_string shut_string)
open Go.Proofs.YtobfoiomjfdjjaaDoor.Mc (dc PQ Li GN PH dc.calls MV Et Hu EW readable aA Gd Tup)
set_option linter.unusedVariables false
theorem own:ownKnob Tryd.prog.godebug=none:=by kernel_rfl
theorem XI:Rows.laid_unicode_utf8_first=Lib.firstData:=by kernel_rfl
theorem eK:(Rows.laid_unicode_utf8_acceptRanges:DataW Unit)=Lib.acceptData:=by kernel_rfl
theorem fE {W:World}(h:laidMetH Tryd.prog Rows.judgeOldRow.laid W):Lib.Utf8Tabs 2 3 W:=by
 have hM:laidMet Tryd.prog Rows.judgeOldRow.laid W:=h
 have r4:=Lib.laidMet.reads hM (n := "unicode/utf8.acceptRanges") (d:=Rows.laid_unicode_utf8_acceptRanges) (.tail _ (.head _))
 have r3:=Lib.laidMet.reads hM (n := "unicode/utf8.first") (d:=Rows.laid_unicode_utf8_first) (.tail _ (.tail _ (.head _)))
 rw [XI] at r3
 rw [eK] at r4
 exact utf8Tabs_of_reads Tryd.lays260 ⟨by kernel_rfl,by kernel_rfl,by kernel_rfl,by kernel_rfl,by kernel_rfl,by kernel_rfl,by kernel_rfl⟩ r3 r4
theorem WZ:(Rows.laid_cachepot_cachepothand_names:DataW Unit)=.agg (N.Dk.map fun s=>.lit (.string s.data.toList)):=by kernel_rfl
theorem texts {W:World}(h:laidMetH Tryd.prog Rows.judgeOldRow.laid W):Go.Proofs.YtobfoiomjfdjjaaDoor.Mc.Je W 0 N.Dk:=by
 have hM:laidMet Tryd.prog Rows.judgeOldRow.laid W:=h
 have r0:=Lib.laidMet.reads hM (n := "cachepot/cachepothand.names") (d:=Rows.laid_cachepot_cachepothand_names) (.head _)
 rw [WZ] at r0
 exact Go.Proofs.YtobfoiomjfdjjaaDoor.Mc.RJ (t:=54) (e:=9) (m:=12) r0 (by kernel_rfl) (by kernel_rfl) Tryd.underlying54 Tryd.underlying9 (by kernel_rfl) (by kernel_rfl)
instance mo:Go.Proofs.YtobfoiomjfdjjaaDoor.Mc.Mo:=⟨false⟩
theorem holds {W:World} (h:laidMetH Tryd.prog Rows.judgeOldRow.laid W):GN W :=
 Go.Proofs.YtobfoiomjfdjjaaDoor.Mc.My (g0:=0) (g3:=2) (g4:=3) (ss:=N.Dk) (by kernel_rfl) (by decide) (by kernel_rfl) (by kernel_rfl) (fun g h0 h1 h2=>PH fun p hp=>by
   rcases List.mem_cons.1 hp with rfl | hp
   · exact h0
   · rcases List.mem_cons.1 hp with rfl | hp
     · exact h1
     · rcases List.mem_cons.1 hp with rfl | hp
       · exact h2
       · cases hp) (texts h) (fE h)
set_option maxRecDepth 100000 in
theorem VR (H:Type)(enc:TypeId × Value->H)(W:World)(base:Nat)(args:Array Value)(ds gs:List (DataW H))(before:List MemPlace)
   (hval:∀ (j:Nat) t v,Tryd.f3.params[j]? = some t->args[j]? = some v->Value.okWide Tryd.prog W .any base t v)
   (hW:DataW.Whole enc Tryd.prog Tryd.f3.params.toList Rows.judgeOldSpec.vars false W args.toList ds gs before) (hL:laidMetH Tryd.prog Rows.judgeOldRow.laid W) :
   Calls Tryd.prog 3 args W fun e W'=>∃ v,e=.returned v/\Rows.judgeOldSpec.post enc Tryd.prog Tryd.f3 false true false false W args v W':=by
 have hW':=hW
 obtain ⟨p,q,hA0,hV,rfl,hfz,hnd⟩:=hW
 have hA:DataW.TrodAll enc Tryd.prog W 0 (fun _=>true) true Tryd.f3.params.toList args.toList ds p:=hA0
 obtain ⟨rfl,rfl⟩:=trodVars_none hV
 simp only [List.append_nil] at hW'
 have hD:=hA
 rw [show Tryd.f3.params.toList=[23,3,9,9,3] from rfl] at hD
 obtain ⟨_,_,d0,_,_,_,_,rfl,_,_,hD⟩:=trodAll_cons hD
 obtain ⟨_,_,d1,_,_,_,_,rfl,_,_,hD⟩:=trodAll_cons hD
 obtain ⟨_,_,d2,_,_,_,_,rfl,_,_,hD⟩:=trodAll_cons hD
 obtain ⟨_,_,d3,_,_,_,_,rfl,_,_,hD⟩:=trodAll_cons hD
 obtain ⟨_,_,d4,_,_,_,_,rfl,_,_,hD⟩:=trodAll_cons hD
 obtain ⟨_,rfl,_⟩:=trodAll_nil hD
 refine (MV (holds hL) (n:=30) (gs:=[.int .i64,.int .i64,.int .i64,.int .i64,.str,.str,.int .i64]) (ss:=N.A3.a) (by kernel_rfl) (fun y gy=>?_) (fun j t v h=>hval j t v (by simpa using h)) hA).mono fun e W' ⟨he,bel⟩=>?_
 · obtain ⟨k,hk⟩:=PureJudgeOld.law y.1 y.2.1 y.2.2.1 y.2.2.2.1 y.2.2.2.2.1 y.2.2.2.2.2.1 y.2.2.2.2.2.2 gy
   exact (N.C3 k rfl).ok y true hk
 subst he
 exact ⟨_,rfl,_,_,_,[],_,[],hW', trodAll_mk1 (shut_bool Tryd.underlying4 _),EW (by kernel_rfl) bel (by kernel_rfl) hA,rfl,bel.frame _,fun h=>by cases h⟩
noncomputable def Hx (os:Os):World :=
 let w0:=World.holding Tryd.prog os ⟨#[],#[],[]⟩
 let put (h:Array Obj) (g:Nat) (cs:Array Value):Array Obj:=h.modify g fun
   | .cells _ t frozen=>.cells cs t frozen
   | o=>o
 let h0:=put w0.heap 0 (N.Dk.map Value.string).toArray
 let h1:=put h0 2 (Lib.firstTab.map fun z=>Value.int .u8 z).toArray
 let h2:=put h1 3 ((List.range 16).flatMap fun i=>[Value.int .u8 (Lib.accLo i),Value.int .u8 (Lib.accHi i)]).toArray
 { w0 with heap:=h2 }
theorem Vv (os:Os):laidMet Tryd.prog Rows.judgeOldRow.laid ((Hx os).forCall (fun _ _=>0) ⟨#[],#[.agg #[.int .i64 0,.int .i64 0,.int .i64 0],.int .i64 0,.string ByteArray.empty,.string ByteArray.empty,.int .i64 0],[]⟩).memory :=
 laidMet_of_run' 8 (by kernel_rfl) (by kernel_rfl)
theorem reads (os:Os){H:Type}(enc:TypeId × Value->H):∃ places,DataW.whole enc Tryd.prog ((Hx os).forCall (fun _ _=>0) ⟨#[],#[.agg #[.int .i64 0,.int .i64 0,.int .i64 0],.int .i64 0,.string ByteArray.empty,.string ByteArray.empty,.int .i64 0],[]⟩).memory Tryd.f3.params.toList Rows.judgeOldSpec.vars false (#[.agg #[.int .i64 0,.int .i64 0,.int .i64 0],.int .i64 0,.string ByteArray.empty,.string ByteArray.empty,.int .i64 0]:Array Value).toList 8=some ([.agg [.lit (.int .i64 0),.lit (.int .i64 0),.lit (.int .i64 0)],.lit (.int .i64 0),.lit (.string []),.lit (.string []),.lit (.int .i64 0)],[],places) :=
 ⟨[],by kernel_rfl⟩
set_option maxRecDepth 100000 in
theorem lifted (os:Os) (started:os.Started) (H:Type) (enc:TypeId × Value->H) (F:Stop.Interp) :
   ReturnsInHanded {} Tryd.checked os 3 .any ((OpenSpec.ofChange Rows.judgeOldSpec).preRow enc Tryd.prog Tryd.f3 Rows.judgeOldRow.domain false Rows.judgeOldRow.laid) (((OpenSpec.ofChange Rows.judgeOldSpec).at F).post enc Tryd.prog Tryd.f3 false true false false):=by
 obtain ⟨places,hx⟩:=reads os enc
 refine returnsInHanded_of_row (C:=Tryd.checked) (s:=OpenSpec.ofChange Rows.judgeOldSpec) own started (by kernel_rfl) Tryd.func3
   (witness_row_at (enc:=enc) (C:=Tryd.checked) false (Hx os) #[.agg #[.int .i64 0,.int .i64 0,.int .i64 0],.int .i64 0,.string ByteArray.empty,.string ByteArray.empty,.int .i64 0] rfl (by kernel_rfl) (by kernel_rfl) (by kernel_rfl)
     (OpenSpec.preRow_of_cond 8 hx (by kernel_rfl) (fun k hk=>by cases hk) (by kernel_rfl) (Vv os))) ?_
 intro W base args ds gs before hval hW _ hcond _ hL _ _
 exact VR H enc W base args ds gs before hval hW hL
theorem said:Rows.JudgeOldSaid :=
 OpenClaim.holds_of_cond 3 Tryd.f3 rfl rfl rfl rfl rfl rfl rfl ⟨rfl,rfl,rfl,rfl,rfl⟩ rfl rfl rfl rfl rfl (by kernel_rfl) Tryd.func3 (by kernel_rfl)
   (of_decide_eq_true (by kernel_rfl)) (by unfold Func.isWrapper; first | (rw [if_pos (by decide +kernel)]; kernel_rfl) | (rw [if_neg (by decide +kernel)]; exact ⟨rfl,rfl⟩))
   (fun os started H enc _ F=>by rw [OpenClaim.pre_eq_preRow]; exact lifted os started H enc F)
theorem plain (f:FuncId)(fn:Func)(hf : Tryd.pinned.checked.prog.funcNamed "cachepot/cachepotlaw28.JudgeOld" = some f)(WK:Tryd.pinned.checked.prog.funcs[f]? = some fn) :
   false=Tryd.pinned.checked.prog.looks []/\∀ (j:Nat) t,fn.params[j]? = some t->Tryd.pinned.checked.prog.wantsStandIn t=false:=by
 obtain rfl:f=3:=Option.some.inj ((show Tryd.prog.funcNamed "cachepot/cachepotlaw28.JudgeOld" = some 3 by kernel_rfl).symm.trans hf) |>.symm
 obtain rfl:fn=Tryd.f3:=(Option.some.inj (Tryd.func3.symm.trans WK)).symm
 refine ⟨by kernel_rfl,fun j t ht=>?_⟩
 rw [Tryd.params3] at ht
 have hm:t ∈ [23,3,9,9,3]:=by simpa using Array.mem_of_getElem? ht
 have hall:([23,3,9,9,3].all fun u => !Tryd.prog.wantsStandIn u)=true:=by kernel_rfl
 exact (show Tryd.prog.wantsStandIn t=false by simpa using List.all_eq_true.1 hall t hm)
theorem proved:Rows.JudgeOldCardSaid :=
 Claim7.holds_tied_plain_at .later [] _ _ _ _ said (fun _ h=>by cases h) (by kernel_rfl) (fun _ h=>by cases h) judgeOld_row_tie rfl ⟨rfl,rfl⟩ (by kernel_rfl) rfl plain (by kernel_rfl)
#print axioms proved
end Go.Proofs.YtobfoiomjfdjjaaDoor.judgeOld
namespace Go.Proofs.YtobfoiomjfdjjaaDoor
theorem judgeOld_holds:Rows.JudgeOldCardSaid:=judgeOld.proved
end Go.Proofs.YtobfoiomjfdjjaaDoor

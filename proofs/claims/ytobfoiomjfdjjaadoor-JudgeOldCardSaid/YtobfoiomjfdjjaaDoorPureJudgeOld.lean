/- JudgeOld's plain law. -/
import Derived.Test.YtobfoiomjfdjjaaDoorPView
import Derived.Test.YtobfoiomjfdjjaaDoorPBatch2
namespace Go.Proofs.YtobfoiomjfdjjaaDoor.PureJudgeOld
open Go.RowKit Go.Proofs.YtobfoiomjfdjjaaDoor.Mc Go.Proofs.YtobfoiomjfdjjaaDoor.N Go.Proofs.YtobfoiomjfdjjaaDoor.Plain Go.Proofs.YtobfoiomjfdjjaaDoor.PBatch1 Go.Proofs.YtobfoiomjfdjjaaDoor.PMk Go.Proofs.YtobfoiomjfdjjaaDoor.PMkO Go.Proofs.YtobfoiomjfdjjaaDoor.PFd
open Go.Proofs.YtobfoiomjfdjjaaDoor.PureKeys (Av Am)
open Go.Proofs.YtobfoiomjfdjjaaDoor.PBook (short Gi IM)
open Go.Proofs.YtobfoiomjfdjjaaDoor.PView (RS Kh Iw)
open Go.Proofs.YtobfoiomjfdjjaaDoor.PBatch2 (MP Wj)
set_option linter.unusedSimpArgs false
set_option linter.unusedVariables false
set_option maxRecDepth 100000
abbrev Wr:=PBatch1.Wr
abbrev An:=ByteArray × Bool × ByteArray × Int
abbrev Mp:=List (ByteArray × An)
theorem RM (K:Nat)(hK:2000000<=K):Yi K []=some []:=by
 rw [PSorted.Ka K hK (l:=[]) (fun x hx=>by simp at hx) (by simp)]
 have h:(PSorted.YN []).length=0:=by have:=PSorted.Rx []; rw [List.length_nil] at this; omega
 rw [List.eq_nil_of_length_eq_zero h]
theorem keys_nil (K:Nat)(hK:2000000<=K):aB K []=some ([],[]):=by
 obtain ⟨q,rfl⟩:∃ q,K=q+1:=⟨K - 1,by omega⟩
 have h:aB (q+1) []=(Yi (q+1) []).bind fun y=>some (y,[]):=rfl
 rw [h,RM _ hK]
 rfl
theorem Mj (K:Nat)(hK:2000000<=K)(a b c:Int)(d e:Bool)(f:Int)(l:List (ByteArray × Bool × ByteArray))(t:Int)(fr:Bool)(sp:Int):bG K a b c d e f l t fr sp []=some ([],[]):=by
 unfold bG
 rw [keys_nil K hK,Option.bind_some]
 obtain ⟨q,rfl⟩:∃ q,K=q+1:=⟨K - 1,by omega⟩
 rfl
theorem Qf (K:Nat)(hK:2000000<=K)(a b c:Int):eu K [] a b c false true 0 [] 0 false 0 []=some (.inr (true,[],[])):=by
 unfold eu
 rw [Mj K hK,Option.bind_some]
 obtain ⟨q,rfl⟩:∃ q,K=q+1:=⟨K - 1,by omega⟩
 rfl
theorem Vm (K:Nat)(hK:2000000<=K)(a b c:Int):ef K 0 0 0 0 [] [] [] a b c false false 0 [] 0 false 0 []=some (true,a,b,c,false,true,0,[],0,false,0,[]):=by
 unfold ef
 rw [Qf K hK]
 obtain ⟨q,rfl⟩:∃ q,K=q+1:=⟨K - 1,by omega⟩
 rfl
theorem PF (K:Nat)(hK:2000000<=K)(a b c:Int):Vs K 14 0 ByteArray.empty ByteArray.empty [] 0 [] 0 0 0 0 0 0 0 [] [] [] a b c false false 0 [] 0 false 0 []=some (.inl (true,a,b,c,false,true,0,[],0,false,0,[])):=by
 have h:ej K 14 0 ByteArray.empty ByteArray.empty [] 0 [] 0 0 0 0 0 0 0 [] [] [] a b c false false 0 [] 0 false 0 []=some (.inr (.inl (true,a,b,c,false,true,0,[],0,false,0,[]))):=by
   unfold ej
   rw [Vm K hK]
   rfl
 unfold Vs
 rw [h]
 rfl
theorem VM (K:Nat)(a b c td sp:Int)(m:Mp):Vs K 1 0 ByteArray.empty ByteArray.empty [] 0 [] 0 0 0 0 1 0 0 [] [] [] a b c false true 0 [] td false sp m=some (.inr (.inr (true,a,b,c,false,true,1,[],td,false,sp,1,m,[],[]))):=by kernel_rfl
theorem ZC (K:Nat)(a b c td sp:Int)(m:Mp):Vs K 1 0 ByteArray.empty ByteArray.empty [] 0 [] 0 0 0 0 2 0 0 [] [] [] a b c false true 1 [] td false sp m=some (.inr (.inr (true,a,b,c,false,true,2,[],td,false,sp,2,m,[],[]))):=by kernel_rfl
theorem Zr (K:Nat)(a b c td sp:Int)(m:Mp):Vs K 1 0 ByteArray.empty ByteArray.empty [] 0 [] 0 0 0 0 3 0 0 [] [] [] a b c false true 2 [] td false sp m=some (.inr (.inr (true,a,b,c,false,true,3,[],td,false,sp,3,m,[],[]))):=by kernel_rfl
theorem TY (K:Nat)(a b c:Int):HW K 1 0 ByteArray.empty ByteArray.empty [] 0 [] 0 0 0 0 7 0 0 [] [] [] a b c false true 1 [] 0 false 0 1 [] [] []=some (.inr (.inr (.inr (.inr (false,a,b,c,true,true,2,[],0,false,0,1,2,[],[],[],[],[]))))):=by kernel_rfl
theorem alive (K:Nat)(hK:2000000<=K):F7 K=some true:=by
 have h1:F6 K 32 4 4=some (.inr (32,4,4,false,false,0,[],0,false,0,[])):=by kernel_rfl
 unfold F7
 rw [h1,Option.bind_some]
 simp only [Aq,Option.bind_some]
 rw [PF K hK,Option.bind_some]
 simp only [Aq,Option.bind_some]
 rw [VM,Option.bind_some]
 simp only [Aq,Option.bind_some]
 rw [TY,Option.bind_some]
 rfl
theorem Wg (K:Nat)(hK:2000000<=K)(o:Int){kk val:ByteArray}(hk:kr kk=true)(hv:val.size<=48)(a b c gi td sp kx:Int)(m:Mp) :
   Zy K 2 o kk val [] 0 [] 0 0 0 0 0 0 0 [] [] [] a b c false true gi [] td false sp [] kx [] m=some (.inl (true,a,b,c,false,true,gi,[],td,false,sp,[],kx,m,[(kk,false,val)])):=by
 have hs:Iw [] (kk,false,val)=(0,[(kk,false,val)]):=by
   unfold PView.Iw
   rw [if_neg (by rw [hk]; decide),if_neg (by show ¬ 48 < val.size; omega)]
   rfl
 unfold Zy
 rw [RS K hK kk val [] [] (by simp),hs]
 rfl
theorem SO (K:Nat)(hK:2000000<=K)(o:Int){kk val:ByteArray}(hk:kr kk=true)(hv:val.size<=48)(a b c gi td sp:Int)(m:Mp) :
   HW K 2 o kk val [] 0 [] 0 0 0 0 0 0 0 [] [] [] a b c false true gi [] td false sp o m [] []=some (.inl (true,a,b,c,false,true,gi,[],td,false,sp,o,m,[],[(kk,false,val)])):=by
 have h:ML K 2 o kk val [] 0 [] 0 0 0 0 0 0 0 [] [] [] a b c false true gi [] td false sp o m [] []=some (.inr (.inl (true,a,b,c,false,true,gi,[],td,false,sp,o,m,[],[(kk,false,val)]))):=by
   unfold ML
   simp only [Int.reduceBEq,Int.reduceBNe,Int.reduceLT,decide_false,decide_true,cond_true,cond_false,Option.bind_some,Bool.not_true,Bool.not_false,beq_self_eq_true,Wg K hK o hk hv,Aq]
 unfold HW
 rw [h]
 rfl
theorem DB (K:Nat){a b c:Int}(h:32<=a/\a<=128/\3<=b/\b<=10/\4<=c/\c<=12):YO K a b c=some true:=by
 unfold YO
 rw [BC (by omega),BC (by omega),BC (by omega),BC (by omega),BC (by omega),decide_eq_true (by omega)]
theorem SS (K:Nat){a b c:Int}(h:32<=a/\a<=128/\3<=b/\b<=10/\4<=c/\c<=12)(s:Int):∃ v,ed K a b c s=some v:=by
 have h1:eA K a b c=some (a - 15):=by
   unfold eA
   rw [DB K h,Option.bind_some,Bool.not_true,cond_false,LS (by omega) (by omega)]
 unfold ed
 rw [DB K h,Option.bind_some,Bool.not_true,cond_false,h1,Option.bind_some,Option.bind_some,LU (by rw [bne_iff_ne]; omega)]
 exact ⟨_,rfl⟩
theorem Ps (K:Nat)(hK:2<=K)(sq:Int)(kk val:ByteArray)(m:Mp):fA K sq [(kk,false,val)] m=some (Bw Lk m kk (kk,true,val,sq)):=by
 obtain ⟨q,rfl⟩:∃ q,K=q+2:=⟨K - 2,by omega⟩
 kernel_rfl
theorem eH {kk val:ByteArray}(hk:kr kk=true)(hv:val.size<=48):mk [(kk,false,val)]=[(kk,false,val)] :=
 ba.again (ba.ofParts (List.pairwise_singleton _ _) (fun w hw=>by rw [List.mem_singleton] at hw; rw [hw]; exact hk) (fun w hw=>by rw [List.mem_singleton] at hw; rw [hw]; exact hv) (fun w hw hd=>by rw [List.mem_singleton] at hw; rw [hw] at hd; exact absurd hd Bool.false_ne_true) (Nat.le_refl _) (by show 1<=8; omega))
theorem VF {kk val:ByteArray}(hk:kr kk=true)(hv:val.size<=48):PMk.DI [(kk,false,val)]:=fun w hw=>by
 rw [List.mem_singleton] at hw
 rw [hw]
 have:=Mr hk
 exact ⟨by show kk.size<=_; omega,by show val.size<=_; omega⟩
theorem XC (K:Nat)(hK:2000000<=K){kk val:ByteArray}(hk:kr kk=true)(hv:val.size<=48){a b c:Int}(hR:32<=a/\a<=128/\3<=b/\b<=10/\4<=c/\c<=12)(gi:Int){td sq:Int}(ht:td < sq)(sp o:Int)(m:Mp) :
   ∃ sp', cW K sq a b c false true gi [] td false sp [(kk,false,val)] o m [] [(kk,false,val)]=some (true,a,b,c,false,true,gi,[],sq,false,sp', Bw Lk m kk (kk,true,val,sq)):=by
 obtain ⟨v,hv'⟩:=SS K hR ((Wj [(kk,false,val)]).1.size:Int)
 refine ⟨IntKind.wrap .i64 (sp+v),?_⟩
 unfold cW
 rw [show ((([(kk,false,val)]:List Wr).length:Int) == 0)=false from rfl,cond_false,BT (by omega),MP K [(kk,false,val)] (VF hk hv) hK,Option.bind_some,hv', Option.bind_some,Ps K (by omega),Option.bind_some]
theorem Pt (K:Nat)(hK:2000000<=K)(o:Int){kk val:ByteArray}(hk:kr kk=true)(hv:val.size<=48){a b c:Int}(hR:32<=a/\a<=128/\3<=b/\b<=10/\4<=c/\c<=12)(gi:Int){td sq:Int}(ht:td < sq)(sp:Int)(m:Mp) :
   ∃ sp', Zy K 5 o ByteArray.empty ByteArray.empty [] 0 [] 0 0 0 0 0 sq 0 [] [] [] a b c false true gi [] td false sp [] o [(kk,false,val)] m=some (.inr (true,a,b,c,false,true,gi,[],sq,false,sp', [],[(kk,false,val)],Bw Lk m kk (kk,true,val,sq))):=by
 obtain ⟨sp', h⟩:=XC K hK hk hv hR gi ht sp o m
 refine ⟨sp', ?_⟩
 have hf:∀ (a b c:Int) (w u:Bool) (gi:Int) (l:List Wr) (td:Int) (fr:Bool) (sp:Int) (m:Mp),dz K [] a b c w u gi l td fr sp m=some (true,m):=fun a b c w u gi l td fr sp m=>rfl
 unfold Zy
 rw [Kh K hK [] [(kk,false,val)] (VF hk hv) (by simp),eH hk hv]
 simp only [Int.reduceBEq,Int.reduceBNe,cond_true,cond_false,Option.bind_some,beq_self_eq_true,h,hf,Aq]
theorem Kq (K:Nat)(hK:2000000<=K)(o:Int){kk val:ByteArray}(hk:kr kk=true)(hv:val.size<=48){a b c:Int}(hR:32<=a/\a<=128/\3<=b/\b<=10/\4<=c/\c<=12)(gi:Int){td sq:Int}(ht:td < sq)(sp:Int)(m:Mp) :
   ∃ sp', HW K 5 o ByteArray.empty ByteArray.empty [] 0 [] 0 0 0 0 0 sq 0 [] [] [] a b c false true gi [] td false sp o m [] [(kk,false,val)]=some (.inr (.inr (.inl (true,a,b,c,false,true,gi,[],sq,false,sp', Bw Lk m kk (kk,true,val,sq),[],[(kk,false,val)])))):=by
 obtain ⟨sp', h0⟩:=Pt K hK o hk hv hR gi ht sp m
 refine ⟨sp', ?_⟩
 have h:ML K 5 o ByteArray.empty ByteArray.empty [] 0 [] 0 0 0 0 0 sq 0 [] [] [] a b c false true gi [] td false sp o m [] [(kk,false,val)]=some (.inr (.inr (.inl (true,a,b,c,false,true,gi,[],sq,false,sp', Bw Lk m kk (kk,true,val,sq),[],[(kk,false,val)])))):=by
   unfold ML
   simp only [Int.reduceBEq,Int.reduceBNe,Int.reduceLT,decide_false,decide_true,cond_true,cond_false,Option.bind_some,Bool.not_true,Bool.not_false,beq_self_eq_true,h0,Aq]
 unfold HW
 rw [h]
 rfl
theorem XA (K:Nat)(hK:2<=K)(kk v:ByteArray)(sq:Int):Rj K [kk] [(kk,(kk,true,v,sq))]=some [(kk,true,v,sq)]:=by
 obtain ⟨q,rfl⟩:∃ q,K=q+2:=⟨K - 2,by omega⟩
 have hs:BQ Lk [(kk,(kk,true,v,sq))] kk=some (kk,true,v,sq):=by
   unfold BQ
   have:Lk kk kk=true:=by unfold Lk; exact beq_self_eq_true _
   rw [this,cond_true]
 have h1:Ju (q+2) [kk] [(kk,(kk,true,v,sq))] (0,[])=some (.inl (1,[(kk,true,v,sq)])):=by
   unfold Ju
   have hx:ix [kk] 0=some kk:=rfl
   have hy:([kk]:List ByteArray)[(0:Int).toNat]? = some kk:=rfl
   simp only [hx,hy,Option.bind_some,hs,Option.getD_some,Option.isSome_some]
   rfl
 unfold Rj
 rw [Av h1]
 rfl
theorem Sp (K:Nat)(hK:2000000<=K)(kk:ByteArray):eP K kk [] []=some (ByteArray.empty,false,ByteArray.empty,false):=by
 unfold eP
 rw [OX K [] kk (by simp) hK]
 rfl
theorem Ol (K:Nat)(hK:2000000<=K)(a b c gi td sp o:Int)(kk v:ByteArray)(sq:Int):Rz K a b c false true gi [] td false sp [] [kk] o [] [(kk,(kk,true,v,sq))]=some [(kk,true,v,sq)]:=by
 have h1:NH K [] [kk] [] (0,[(kk,true,v,sq)])=some (.inl (1,[(kk,true,v,sq)])):=by
   unfold NH
   have hx:ix [kk] 0=some kk:=rfl
   have hy:([kk]:List ByteArray)[(0:Int).toNat]? = some kk:=rfl
   simp only [hx,hy,Option.bind_some,Sp K hK]
   rfl
 unfold Rz
 rw [XA K (by omega),Option.bind_some]
 obtain ⟨q,rfl⟩:∃ q,K=q+2:=⟨K - 2,by omega⟩
 rw [Av h1]
 rfl
def same (x y:An):Bool:=(x.1.toList == y.1.toList) && ((x.2.1 == y.2.1) && ((x.2.2.1.toList == y.2.2.1.toList) && ((x.2.2.2 == y.2.2.2) && true)))
theorem TL (K:Nat)(hK:2<=K)(x y:An):SQ K [x] [y]=some (same x y):=by
 obtain ⟨q,rfl⟩:∃ q,K=q+2:=⟨K - 2,by omega⟩
 unfold SQ
 have h1:Oo (q+2) [x] [y] 0=cond (!same x y) (some (.inr (.inl ()))) (some (.inl 1)):=rfl
 cases h:same x y with
 | false =>
   rw [h] at h1
   rw [Am (k:=q+1) h1]
   rfl
 | true =>
   rw [h] at h1
   rw [Av (k:=q+1) h1]
   rfl
theorem Wt (K:Nat)(hK:2000000<=K)(a b c gi td sp:Int)(kk v:ByteArray)(sq:Int)(x:An) :
   Rw K 4 3 ByteArray.empty ByteArray.empty 0 [] 0 0 0 0 0 0 0 [] [] a b c false true gi [] td false sp [kk] [x] [] 3 [] [(kk,(kk,true,v,sq))]=some (.inl (same x (kk,true,v,sq),a,b,c,false,true,gi,[],td,false,sp,[],3,[(kk,(kk,true,v,sq))],[])):=by
 have hf:∀ (a b c:Int) (w u:Bool) (gi:Int) (l:List Wr) (td:Int) (fr:Bool) (sp o:Int) (m:Mp),Ic K [] a b c w u gi l td fr sp o m [] []=some (true,m):=fun a b c w u gi l td fr sp o m=>rfl
 unfold Rw
 simp only [Int.reduceBEq,Int.reduceBNe,cond_true,cond_false,Option.bind_some,hf,Ol K hK,TL K (show 2<=K by omega)]
theorem Wi (K:Nat)(hK:2000000<=K)(a b c gi td sp:Int)(kk v:ByteArray)(sq:Int)(x:An) :
   ∃ y,Rh K 4 3 ByteArray.empty ByteArray.empty 0 [] 0 0 0 0 0 0 0 [] [] a b c false true gi [] td false sp [kk] [x] 3 [(kk,(kk,true,v,sq))] [] []=some (.inl (same x (kk,true,v,sq),y)):=by
 have h:=Wt K hK a b c gi td sp kk v sq x
 have h0:∃ y,SI K 4 3 ByteArray.empty ByteArray.empty 0 [] 0 0 0 0 0 0 0 [] [] a b c false true gi [] td false sp [kk] [x] 3 [(kk,(kk,true,v,sq))] [] []=y:=⟨_,rfl⟩
 obtain ⟨y,hy⟩:=h0
 have hy':=hy
 unfold SI at hy
 simp only [Int.reduceBEq,Int.reduceBNe,Int.reduceLT,decide_false,decide_true,cond_true,cond_false,Option.bind_some,Bool.not_true,Bool.not_false,beq_self_eq_true,h,Aq] at hy
 unfold Rh
 rw [hy', <- hy]
 simp only [cond_false,Option.bind_some,Aq,Bool.not_not]
 exact ⟨_,rfl⟩
theorem TS (kk:ByteArray)(x y:An):Bw Lk [(kk,x)] kk y=[(kk,y)]:=by
 unfold Bw
 have:Lk kk kk=true:=by unfold Lk; exact beq_self_eq_true _
 rw [this]; rfl
theorem Uv (K:Nat)(hK:2000000<=K){kk u v:ByteArray}(hk:kr kk=true)(hu:u.size<=48){a b c:Int}(hR:32<=a/\a<=128/\3<=b/\b<=10/\4<=c/\c<=12) :
   ∃ sp,Ki K kk u v (true,1,a,b,c,false,true,0,[],0,false,0,[])=some (.inl (true,2,a,b,c,false,true,1,[],2,false,sp,[(kk,(kk,true,u,2))])):=by
 obtain ⟨sp,hc⟩:=Kq K hK 1 hk hu hR 1 (td:=0) (sq:=2) (by omega) 0 []
 refine ⟨sp,?_⟩
 have hw:IntKind.wrap .u32 (IntKind.wrap .i64 (2 * 1))=2:=by decide +kernel
 have hi:IntKind.wrap .i64 (1+1)=2:=by decide +kernel
 unfold Ki
 simp only [Int.reduceLE,Int.reduceBEq,decide_true,cond_true,cond_false,Option.bind_some,VM,SO K hK 1 hk hu,hw,hc,hi,Aq]
 rfl
theorem eB (K:Nat)(hK:2000000<=K){kk u v:ByteArray}(hk:kr kk=true)(hv:(v ++ (⟨#[33]⟩:ByteArray)).size<=48){a b c:Int}(hR:32<=a/\a<=128/\3<=b/\b<=10/\4<=c/\c<=12)(sp:Int)(x:An) :
   ∃ sp', Ki K kk u v (true,2,a,b,c,false,true,1,[],2,false,sp,[(kk,x)])=some (.inl (true,3,a,b,c,false,true,2,[],4,false,sp', [(kk,(kk,true,v ++ (⟨#[33]⟩:ByteArray),4))])):=by
 obtain ⟨sp', hc⟩:=Kq K hK 2 hk hv hR 2 (td:=2) (sq:=4) (by omega) sp [(kk,x)]
 refine ⟨sp', ?_⟩
 have hw:IntKind.wrap .u32 (IntKind.wrap .i64 (2 * 2))=4:=by decide +kernel
 have hi:IntKind.wrap .i64 (2+1)=3:=by decide +kernel
 rw [TS] at hc
 unfold Ki
 simp only [Int.reduceLE,Int.reduceBEq,decide_true,cond_true,cond_false,Option.bind_some,ZC,SO K hK 2 hk hv,hw,hc,hi,Aq]
theorem Ey (K:Nat) (n m:Int) (h0:0 < m) (h1:m<=1000000000):YR K n m=some (n % m):=by
 have ha:=Int.tmod_lt_of_pos n h0
 have hb : -m < n.tmod m:=by
   rcases Int.le_total 0 n with h | h
   · have:=Int.tmod_nonneg m h; omega
   · have:=Int.tmod_lt_of_pos (-n) h0
     rw [Int.neg_tmod] at this
     omega
 unfold YR
 rw [LU (by rw [bne_iff_ne]; omega),<- Sx h0]
 by_cases h:n.tmod m < 0
 · rw [BC h,if_pos h,Option.bind_some,LS (by omega) (by omega)]
 · rw [BT h,if_neg h,Option.bind_some]
theorem UN (K:Nat)(a b c:Int):F5 K a b c=some (32+a % 33,3+b % 4,4+c % 4):=by
 have h1:=Int.emod_nonneg a (show (33:Int) ≠ 0 by omega)
 have h2:=Int.emod_lt_of_pos a (show (0:Int) < 33 by omega)
 have h3:=Int.emod_nonneg b (show (4:Int) ≠ 0 by omega)
 have h4:=Int.emod_lt_of_pos b (show (0:Int) < 4 by omega)
 have h5:=Int.emod_nonneg c (show (4:Int) ≠ 0 by omega)
 have h6:=Int.emod_lt_of_pos c (show (0:Int) < 4 by omega)
 unfold F5
 rw [Ey K a 33 (by omega) (by omega),Ey K b 4 (by omega) (by omega),Ey K c 4 (by omega) (by omega),Option.bind_some,Option.bind_some,Option.bind_some,LS (by omega) (by omega),LS (by omega) (by omega),LS (by omega) (by omega)]
def hk (n:Int):ByteArray:=Dk.getD (n % 12).toNat ⟨#[]⟩
theorem ZY (n:Int):hk n ∈ Dk:=by
 have h1:=Int.emod_nonneg n (show (12:Int) ≠ 0 by omega)
 have h2:=Int.emod_lt_of_pos n (show (0:Int) < 12 by omega)
 unfold hk
 have hl:(n % 12).toNat < Dk.length:=by show _ < 12; omega
 rw [List.getD_eq_getElem?_getD,List.getElem?_eq_getElem hl]
 exact List.getElem_mem hl
theorem Wc (K:Nat)(n:Int):F8 K n=some (hk n):=by
 have h1:=Int.emod_nonneg n (show (12:Int) ≠ 0 by omega)
 have h2:=Int.emod_lt_of_pos n (show (0:Int) < 12 by omega)
 unfold F8
 rw [Ey K n 12 (by omega) (by omega),Option.bind_some]
 have hl:(n % 12).toNat < Dk.length:=by show _ < 12; omega
 obtain ⟨m,hm⟩:∃ m:Nat,n % 12=(m:Int):=⟨(n % 12).toNat,by omega⟩
 unfold hk
 rw [hm,Qw,Int.toNat_natCast]
 rw [hm,Int.toNat_natCast] at hl
 rw [List.getD_eq_getElem?_getD,List.getElem?_eq_getElem hl]; rfl
theorem PE:∀ s ∈ Dk,WW 100 s=some true:=by decide +kernel
theorem VT (n:Int):kr (hk n)=true:=by
 have h:=QT 100 (hk n) (by omega)
 rw [PE _ (ZY n)] at h
 exact (Option.some.inj h).symm
theorem law (x1:Int)(x2:Int)(x3:Int)(x4:Int)(x5:ByteArray)(x6:ByteArray)(x7:Int)(g:aA [.int .i64,.int .i64,.int .i64,.int .i64,.str,.str,.int .i64] (x1,x2,x3,x4,x5,x6,x7)):∃ k,F3 k x1 x2 x3 x4 x5 x6 x7=some true:=by
 refine ⟨2000000,?_⟩
 have hK:2000000<=2000000:=Nat.le_refl _
 unfold F3
 rw [UN,Option.bind_some]
 have hy:∃ a b c,((cond (decide (3+x2 % 4 < 4)) (some (32+x1 % 33,4,4+x3 % 4)) (some (32+x1 % 33,3+x2 % 4,4+x3 % 4)):Option (Int × Int × Int)))=some (a,b,c)/\(32<=a/\a<=128/\3<=b/\b<=10/\4<=c/\c<=12):=by
   by_cases h:3+x2 % 4 < 4
   · rw [BC h]; exact ⟨_,_,_,rfl,by omega⟩
   · rw [BT h]; exact ⟨_,_,_,rfl,by omega⟩
 obtain ⟨a,b,c,hy,hR⟩:=hy
 simp only []
 rw [hy,Option.bind_some]
 have hn:F6 2000000 a b c=some (.inr (a,b,c,false,false,0,[],0,false,0,[])):=by
   unfold F6
   rw [DB _ hR]; rfl
 simp only []
 rw [hn,Option.bind_some]
 simp only [Aq,Option.bind_some]
 rw [alive _ hK,Option.bind_some]
 simp only [Bool.not_true,cond_false,Option.bind_some]
 have e4:(4:Int)=((4:Nat):Int):=rfl
 rw [Wc,Option.bind_some,e4,IM,Option.bind_some,IM,Option.bind_some,<- e4]
 have s5:=Gi x5 4
 have s6:=Gi x6 4
 have hkk:=VT x4
 have hv:((short x6 4) ++ (⟨#[33]⟩:ByteArray)).size<=48:=by
   rw [ByteArray.size_append]
   have:(⟨#[33]⟩:ByteArray).size=1:=rfl
   omega
 generalize hk x4=kk at *
 generalize short x5 4=u at *
 generalize short x6 4=v at *
 have e1:(⟨#[33]⟩:ByteArray).size=1:=rfl
 rw [LU (decide_eq_true (by rw [e1]; omega)),PF _ hK,Option.bind_some]
 simp only [Aq,Option.bind_some]
 obtain ⟨sp1,h1⟩:=Uv 2000000 hK (u:=u) (v:=v) hkk (by omega) hR
 obtain ⟨sp2,h2⟩:=eB 2000000 hK (u:=u) (v:=v) hkk hv hR sp1 (kk,true,u,2)
 have h3:Ki 2000000 kk u v (true,3,a,b,c,false,true,2,[],4,false,sp2,[(kk,(kk,true,v ++ (⟨#[33]⟩:ByteArray),4))])=some (.inr (true,a,b,c,false,true,2,[],4,false,sp2,[(kk,(kk,true,v ++ (⟨#[33]⟩:ByteArray),4))])):=rfl
 have hl:AX (Ki 2000000 kk u v) 2000000 (true,1,a,b,c,false,true,0,[],0,false,0,[])=some (true,a,b,c,false,true,2,[],4,false,sp2,[(kk,(kk,true,v ++ (⟨#[33]⟩:ByteArray),4))]):=by
   have:(2000000:Nat)=1999997+1+1+1:=rfl
   conv=>lhs; arg 2; rw [this]
   rw [Av h1,Av h2,Am h3]
 rw [hl,Option.bind_some]
 simp only []
 rw [Zr,Option.bind_some]
 simp only [Aq,cond_true,Option.bind_some]
 rw [Ey _ _ _ (by omega) (by omega),Option.bind_some]
 have hx:∀ q:Int,∃ z:An,((cond (q == 0) (some (kk,true,u,2)) (cond (q == 1) (some (kk,true,v ++ (⟨#[33]⟩:ByteArray),5)) (cond (q == 2) (some (kk,true,u,4)) (cond (q == 3) (some (kk,false,ByteArray.empty,0)) (some (kk,true,v ++ (⟨#[33]⟩:ByteArray),4))))):Option An))=some z:=fun q=>by
   generalize (q == 0)=q0
   generalize (q == 1)=q1
   generalize (q == 2)=q2
   generalize (q == 3)=q3
   cases q0 <;> cases q1 <;> cases q2 <;> cases q3 <;> exact ⟨_,rfl⟩
 obtain ⟨⟨z1,z2,z3,z4⟩,hz⟩:=hx (x7 % 5)
 rw [hz,Option.bind_some]
 simp only []
 obtain ⟨y,hg⟩:=Wi 2000000 hK a b c 3 4 sp2 kk (v ++ (⟨#[33]⟩:ByteArray)) 4 (z1,z2,z3,z4)
 rw [hg,Option.bind_some]
 simp only [Aq]
 show some (same (z1,z2,z3,z4) (kk,true,v ++ (⟨#[33]⟩:ByteArray),4) == same (z1,z2,z3,z4) (kk,true,v ++ (⟨#[33]⟩:ByteArray),4))=some true
 rw [beq_self_eq_true]
end Go.Proofs.YtobfoiomjfdjjaaDoor.PureJudgeOld

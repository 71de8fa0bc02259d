/- ChainLinks' plain law. -/
import Derived.Test.YthoimblkpcikdaaGreatDoorPChn
namespace Go.Proofs.YthoimblkpcikdaaGreatDoor.PureChainLinks
open Go.RowKit Go.Proofs.YthoimblkpcikdaaGreatDoor.Mc Go.Proofs.YthoimblkpcikdaaGreatDoor.N Go.Proofs.YthoimblkpcikdaaGreatDoor.Plain Go.Proofs.YthoimblkpcikdaaGreatDoor.PWalk Go.Proofs.YthoimblkpcikdaaGreatDoor.PWalk2 Go.Proofs.YthoimblkpcikdaaGreatDoor.PRev Go.Proofs.YthoimblkpcikdaaGreatDoor.PPiece Go.Proofs.YthoimblkpcikdaaGreatDoor.PGrp Go.Proofs.YthoimblkpcikdaaGreatDoor.PGrp3 Go.Proofs.YthoimblkpcikdaaGreatDoor.PGrp4 Go.Proofs.YthoimblkpcikdaaGreatDoor.PKeep1 Go.Proofs.YthoimblkpcikdaaGreatDoor.PKeep2 Go.Proofs.YthoimblkpcikdaaGreatDoor.PKeep3 Go.Proofs.YthoimblkpcikdaaGreatDoor.PKeep4 Go.Proofs.YthoimblkpcikdaaGreatDoor.PKeep5 Go.Proofs.YthoimblkpcikdaaGreatDoor.PRaw Go.Proofs.YthoimblkpcikdaaGreatDoor.PRaw2 Go.Proofs.YthoimblkpcikdaaGreatDoor.PFlo Go.Proofs.YthoimblkpcikdaaGreatDoor.PChain
open Go.Proofs.YthoimblkpcikdaaGreatDoor.PJoin (Fr AL)
open Go.Proofs.YthoimblkpcikdaaGreatDoor.PPut (SM)
open Go.Proofs.YthoimblkpcikdaaGreatDoor.PCut (Ah)
set_option linter.unusedSimpArgs false
set_option linter.unusedVariables false
structure Lk (gs:List Hd)(w fl:Int):Prop where
 go:∀ i (h:i+1 < gs.length),(gs[i]'(by omega)).2.1=gs[i+1].1
 last:∀ i (h:i < gs.length),i+1=gs.length->gs[i].2.1=w
 up:∀ h ∈ gs,w < h.1/\fl < h.1
theorem Lk.snoc {gs:List Hd} {w fl:Int} (k:Lk gs w fl) {h:Hd} (hw:h.1=w) (hf:fl < w) (hp:h.2.1 < h.1):Lk (gs ++ [h]) h.2.1 fl:=by
 refine ⟨fun i hi=>?_,fun i hi he=>?_,fun g hg=>?_⟩
 · rw [List.length_append,BB] at hi
   by_cases h1:i+1 < gs.length
   · rw [List.getElem_append_left h1,List.getElem_append_left (by omega)]
     exact k.go i h1
   · have e:i+1=gs.length:=by omega
     rw [List.getElem_append_left (show i < gs.length by omega),List.getElem_append_right (by omega)]
     rw [k.last i (by omega) e]
     simp only [List.getElem_singleton]
     exact hw.symm
 · rw [List.length_append,BB] at he
   rw [List.getElem_append_right (by omega)]
   simp only [List.getElem_singleton]
 · rcases List.mem_append.1 hg with hg | hg
   · have:=k.up g hg
     omega
   · rw [List.mem_singleton] at hg
     rw [hg]
     omega
theorem aY {r:Int} {A:List Hd} (hA:∀ h ∈ A,cS r h) (fl fr:Int) (hff:fr<=fl) (hfl:fl<=2147483647):∀ (N:Nat) (w:Int) (gs:List Hd) (lv:List Int),GW A w < N->w<=2147483647->Lk gs w fl->lv.Nodup->(lv.length:Int) < r ->
   ∃ w', Lk (ch r A N fl fr w gs lv).2.2.1 w' (ch r A N fl fr w gs lv).1/\w' <= (ch r A N fl fr w gs lv).1/\(ch r A N fl fr w gs lv).2.1<=(ch r A N fl fr w gs lv).1/\(ch r A N fl fr w gs lv).1<=2147483647/\(ch r A N fl fr w gs lv).2.2.2.Nodup/\((ch r A N fl fr w gs lv).2.2.2.length:Int) < r/\fl<=(ch r A N fl fr w gs lv).1:=by
 intro N
 induction N with
 | zero=>intro w gs lv hc; omega
 | succ N ih =>
   intro w gs lv hc hw hk hn hl
   unfold ch
   by_cases h1:fl < w
   · rw [if_pos h1]
     cases hf:Kw r w lv A with
     | none =>
       refine ⟨w,⟨hk.go,hk.last,fun h hh=>⟨(hk.up h hh).1,(hk.up h hh).1⟩⟩,Int.le_refl _,?_,hw,hn,hl,by show fl<=w; omega⟩
       show mx fr w<=w
       unfold mx
       split <;> omega
     | some h =>
       obtain ⟨hm,Oq,hlt⟩:=Eh hf
       have hpv:=(hA h hm).pv
       have hcl:=RL (u:=h.2.1) (w:=w) hm (by omega) (by omega)
       exact ih h.2.1 (gs ++ [h]) (Cp lv h.2.2.2.2) (by omega) (by omega) (hk.snoc Oq h1 hpv.2) (HB _ hn) hlt
   · rw [if_neg h1]
     exact ⟨w,hk,by show w<=fl; omega,hff,hfl,hn,hl,Int.le_refl _⟩
theorem fe {R S:Int} {L:List Pl} {t:Nat} {q:Hd} (hq:Pm R S L t=some q):∃ n,t < L.length/\n<=t/\(jn ((ES L t n).map ET)).2.2.2.2=0/\q=((jn ((ES L t n).map ET)).1,(jn ((ES L t n).map ET)).2.1,(jn ((ES L t n).map ET)).2.2.1,(jn ((ES L t n).map ET)).2.2.2.1,(ES L t n).map MF)/\∃ p,L[t]? = some p/\n=p.2.2.1.toNat/\p.1=3:=by
 unfold Pm at hq
 cases hp:L[t]? with
 | none=>rw [hp] at hq; cases hq
 | some p =>
   rw [hp] at hq
   simp only [] at hq
   split at hq
   · rename_i hc
     exact ⟨p.2.2.1.toNat,(List.getElem?_eq_some_iff.1 hp).1,Gs hc.2.1,hc.2.2.2,(Option.some.inj hq).symm,p,rfl,rfl,hc.1⟩
   · cases hq
theorem uH {x:List Rg}{r:Nat}(hx:x.map (·.1)=(List.range r).map fun i:Nat=>(i:Int)){f:Rg}(hf:f ∈ x):∃ i:Nat,f.1=(i:Int)/\x[i]? = some f:=by
 obtain ⟨i,hi⟩:=List.getElem?_of_mem hf
 have h1:=congrArg (fun l=>l[i]?) hx
 have hil:=(List.getElem?_eq_some_iff.1 hi).1
 have hxl:x.length=r:=by have:=congrArg List.length hx; rwa [List.length_map,List.length_map,List.length_range] at this
 simp only [List.getElem?_map,hi,Option.map_some] at h1
 rw [List.getElem?_range (by omega)] at h1
 exact ⟨i,Option.some.inj h1,hi⟩
theorem YA (K:Nat) (hK:2000000<=K) {p n r:Int} {x W:List Rg} (d:UI p n r x W) (hx:x.map (·.1)=(List.range r.toNat).map fun i:Nat=>(i:Int)) (h:Hd) (M:List Pl) (hM:∀ q ∈ M,q ∈ flat W) (hl:M.length<=1000) (hs:h.2.2.2.2=M.map MF):AB (Th K h x) K (0,[])=some (.inr (M.map ET)):=by
 have hxl:=d.xl
 refine Ag (fun j=>((j:Int),(M.take j).map ET)) M.length rfl (by omega) (fun j hj=>?_) ?_
 · have hq:=hM _ (List.getElem_mem hj)
   obtain ⟨f,hf,k,hk,e⟩:=GX hq
   have hfx:f ∈ x:=((d.ws.mem f).1 hf).1
   obtain ⟨i,hi,hxi⟩:=uH hx hfx
   have hil:=(List.getElem?_eq_some_iff.1 hxi).1
   have hkl:=d.xf f hfx
   have hsj:(M.map MF)[j]? = some ((i:Int),((k+1:Nat):Int)):=by
     rw [List.getElem?_map,List.getElem?_eq_getElem hj,Option.map_some,e,<- hi]; rfl
   have hmj:(M.take (j+1)).map ET=(M.take j).map ET ++ [f.2.2.1[k]]:=by
     rw [AL hj,List.map_append,e]; rfl
   have hml:((M.take j).map ET).length<=1000:=by rw [List.length_map,List.length_take]; omega
   unfold Th
   rw [hs,hmj]
   simp only [Bz,hsj,Option.bind_some]
   rw [AE (by rw [List.length_map]; omega),AF (by omega),AF (by omega),AF (by omega)]
   simp only [Bz,hxi,Option.bind_some]
   rw [decide_eq_false (by omega),cond_false,Aq (by omega) (by omega),show ((k+1:Nat):Int) - 1=(k:Int) by omega,Bz,List.getElem?_eq_getElem hk,Option.bind_some,BB,Ak (by omega),Aq (by omega) (by omega)]
   rfl
 · unfold Th
   simp only []
   rw [hs,AF (by rw [List.length_map]; omega),List.take_length]
theorem gA:∀ lv:List Int,∃ m,SM m lv
 | []=>⟨[],SM.nil⟩
 | x :: lv=>by
   obtain ⟨m,hm⟩:=gA lv
   exact ⟨_,hm.put x fun y=>List.mem_cons⟩
theorem cW {lv:List Int}(hn:lv.Nodup){n:Nat}(hb:∀ x ∈ lv,0<=x/\x < (n:Int)):(Od lv n).length=lv.length:=by
 obtain ⟨m,hm⟩:=gA lv
 rw [<- Zy hm hb,List.length_map,hm.len hn]
theorem gQ {B:Int} (lv:List Int):∀ (L:List Pl) (t:Int),(∀ p ∈ L,p.2.1<=B)->t<=B->t<=L.foldl (LY lv) t/\L.foldl (LY lv) t<=B
 | [],t,_,h=>⟨Int.le_refl _,h⟩
 | p :: L,t,hL,h=>by
   have h1:t<=LY lv t p/\LY lv t p<=B:=by
     have:=hL p (List.mem_cons_self ..)
     unfold LY mx
     split
     · split <;> omega
     · omega
   have h2:=gQ lv L (LY lv t p) (fun q hq=>hL q (List.mem_cons_of_mem _ hq)) h1.2
   rw [List.foldl_cons]
   omega
theorem Uk (K:Nat)(hK:2000000<=K){p n r:Int}{x W:List Rg}(d:UI p n r x W)(hx:x.map (·.1)=(List.range r.toNat).map fun i:Nat=>(i:Int)){h:Hd}(hh:h ∈ all n r W):∃ f,AB (Th K h x) K (0,[])=some (.inr f)/\∃ y,jM K f=some y/\y.2.2.2.2=0/\lM K y.1 y.2.1 y.2.2.1 y.2.2.2.1 h.1 h.2.1 h.2.2.1 h.2.2.2.1=some true:=by
 have hw:=gU hh
 unfold all DI at hh
 obtain ⟨t,_,h1⟩:=List.mem_filterMap.1 hh
 obtain ⟨N,ht,hN,hj,e,q,hq,hNq,hq3⟩:=fe h1
 have hfl:=d.vd.len
 have hqm:q ∈ flat W:=List.mem_of_getElem? hq
 have hb:=d.vd.b q hqm
 have h1N:1<=N:=by
   have:=VB (d.vd.ok q hqm) hq3
   omega
 have hsl:=Ej ht hN
 have hfew:=Rk d.vd ht hN h1N
 refine ⟨(ES (flat W) t N).map ET,YA K hK d hx h (ES (flat W) t N) (fun q hq=>MC hq) (by omega) (by rw [e]),_,br K hK hfew,hj,?_⟩
 rw [e] at hw ⊢
 exact gK K hK _ _ _ _ (by show (jn _).2.2.2.1.length<=1000; have:(jn ((ES (flat W) t N).map ET)).2.2.2.1.length<=8:=hw; omega)
theorem law (x1:Int) (x2:Int) (x3:Int) (x4:(List (Int × Int × Int × (List (Int × Bool × ByteArray)) × Int))) (x5:(List Int)) (g:gH [.int .i64,.int .i64,.int .i64,.sl (.int .u32 (.int .u32 (.int .u32 (.sl (.int .i64 (.bool (.str .nil))) (.int .i64 .nil))))),.sl (.int .u32 .nil)] (x1,x2,x3,x4,x5)) (b:YH [.int .i64,.int .i64,.int .i64,.sl (.int .u32 (.int .u32 (.int .u32 (.sl (.int .i64 (.bool (.str .nil))) (.int .i64 .nil))))),.sl (.int .u32 .nil)] (x1,x2,x3,x4,x5)<=1048576):∃ k,F5 k x1 x2 x3 x4 x5=some true:=by
 refine ⟨2000000,?_⟩
 have hK:2000000<=2000000:=Nat.le_refl _
 obtain ⟨h4,h5⟩:=args x1 x2 x3 x4 x5 g b
 have hR:=PCut.NN x1 x2 x3
 obtain ⟨x,hx,Cc,hxr⟩:=XZ 2000000 hK hR (by omega) x4 h4 x5 h5
 obtain ⟨W,d⟩:=Cc.dev
 unfold F5
 rw [PCut.UQ,Option.bind_some]
 simp only []
 rw [hx,Option.bind_some,UR _ hK d,Option.bind_some,alive _ hK,Option.bind_some,Bool.not_true,cond_false]
 generalize 32+x1 % 33=p at *
 generalize 3+x2 % 4=n at *
 generalize 4+x3 % 4=r at *
 have hri:=hR
 unfold Ah at hri
 have hxl:x.length=r.toNat:=by have:=congrArg List.length hxr; rwa [List.length_map,List.length_map,List.length_range] at this
 have hal:=Re d
 have hfl:=d.fl
 have hl0:=RS (BI (fb (flat W)))
 have hcn:=MJ (all n r W) (top (all n r W))
 have htop:top (all n r W)<=2147483647:=by
   rcases JE 2000000 hK d.Cc (by omega) (lv:=[]) (by simp) with ⟨_,h0,_⟩ | ⟨h,hh,h1,_⟩
   · rw [h0]; decide
   · rw [<- h1]; exact (d.Cc h hh).sq
 have hff:(BI (fb (flat W))).2.2.2.2<=(BI (fb (flat W))).2.2.1:=by
   cases hf:fb (flat W) with
   | none=>exact Int.le_refl _
   | some q =>
     obtain ⟨hm,hq4⟩:=Lp hf
     have hpr:pr q.1 q.2.1 q.2.2.1 q.2.2.2.1=true:=d.vd.ok q hm
     rw [hq4] at hpr
     exact (Xj hpr).2
 obtain ⟨w', hlk,hw', hfr,hmax,hnd,hlen,hup0⟩:=aY d.Cc (BI (fb (flat W))).2.2.1 (BI (fb (flat W))).2.2.2.2 hff hfl.2 202 (top (all n r W)) [] (HK (BI (fb (flat W)))) (by omega) htop ⟨fun i h=>by simp at h,fun i h=>by simp at h,fun h hh=>by simp at hh⟩ hl0.2 (by omega)
 have hlv:=d.lv 202 (BI (fb (flat W))).2.2.1 (BI (fb (flat W))).2.2.2.2 (top (all n r W)) []
 have hgs:∀ h ∈ (ch r (all n r W) 202 (BI (fb (flat W))).2.2.1 (BI (fb (flat W))).2.2.2.2 (top (all n r W)) [] (HK (BI (fb (flat W))))).2.2.1,h ∈ all n r W:=fun h hh=>by
   rcases bK 202 _ _ _ _ _ h hh with h2 | h2
   · simp at h2
   · exact h2
 have hcl:=NA (R:=r) (A:=all n r W) 202 (BI (fb (flat W))).2.2.1 (BI (fb (flat W))).2.2.2.2 (top (all n r W)) [] (HK (BI (fb (flat W))))
 unfold kept
 generalize ch r (all n r W) 202 (BI (fb (flat W))).2.2.1 (BI (fb (flat W))).2.2.2.2 (top (all n r W)) [] (HK (BI (fb (flat W))))=c at *
 rw [List.length_nil] at hcl
 simp only []
 have hloop:∀ (l:Int) (nx:Int) (fg:Int),AB (Xh 2000000 x) 2000000 (0,c.1,c.2.1,fg,c.2.2.1.reverse,Od c.2.2.2 r.toNat,l,nx)=some (.inr (c.1,c.2.1,fg,c.2.2.1.reverse,Od c.2.2.2 r.toNat,l,nx)):=by
   intro l nx fg
   have hrl:c.2.2.1.reverse.length=c.2.2.1.length:=List.length_reverse
   refine Ag (fun i=>((i:Int),c.1,c.2.1,fg,c.2.2.1.reverse,Od c.2.2.2 r.toNat,l,nx)) c.2.2.1.length rfl (by omega) (fun i hi=>?_) ?_
   · have hir:i < c.2.2.1.reverse.length:=by omega
     have hg:c.2.2.1.reverse[i]? = some c.2.2.1.reverse[i]:=List.getElem?_eq_getElem hir
     have hmem:c.2.2.1.reverse[i] ∈ c.2.2.1:=List.mem_reverse.1 (List.getElem_mem hir)
     have hup:=hlk.up _ hmem
     obtain ⟨f,hf,y,hy,hy0,hsame⟩:=Uk 2000000 hK d hxr (hgs _ hmem)
     have htest:((cond (decide (c.2.2.1.reverse[i].1<=c.1)) (some true) (cond (decide (0 < (i:Int))) ((ix c.2.2.1.reverse (IntKind.wrap .i64 ((i:Int) - 1))).bind fun a167=>cond (c.2.2.1.reverse[i].2.1 != a167.1) (some true) (cond ((i:Int) == 0) (some (decide (c.1 < c.2.2.1.reverse[i].2.1))) (some false))) (cond ((i:Int) == 0) (some (decide (c.1 < c.2.2.1.reverse[i].2.1))) (some false))):Option Bool))=some false:=by
       rw [AF (by omega)]
       by_cases h0:0 < i
       · have hlt:c.2.2.1.length - 1 - i+1 < c.2.2.1.length:=by omega
         have hgo:=hlk.go (c.2.2.1.length - 1 - i) hlt
         have e1:c.2.2.1.reverse[i]=c.2.2.1[c.2.2.1.length - 1 - i]'(by omega):=List.getElem_reverse _
         have e2:c.2.2.1.reverse[i - 1]'(by omega)=c.2.2.1[c.2.2.1.length - 1 - i+1]'hlt:=by
           rw [List.getElem_reverse]
           congr 1
           omega
         rw [AE (by omega),Aq (by omega) (by omega),show (i:Int) - 1=((i - 1:Nat):Int) by omega,Bz,List.getElem?_eq_getElem (show i - 1 < c.2.2.1.reverse.length by omega),Option.bind_some,e2,e1,hgo,bne_self_eq_false,cond_false,beq_eq_false_iff_ne.2 (by omega),cond_false]
       · obtain rfl:i=0:=by omega
         have e1:c.2.2.1.reverse[0]=c.2.2.1[c.2.2.1.length - 1 - 0]'(by omega):=List.getElem_reverse _
         have hlast:=hlk.last (c.2.2.1.length - 1 - 0) (by omega) (by omega)
         rw [AF (by omega),e1,hlast,decide_eq_false (by omega)]
         rfl
     unfold Xh
     simp only []
     rw [AE (by omega)]
     simp only [Bz,hg,Option.bind_some]
     rw [htest,Option.bind_some,cond_false,hf,Option.bind_some]
     simp only [BM]
     rw [hy,Option.bind_some,hy0,hsame,Option.bind_some,Aq (by omega) (by omega)]
     rfl
   · unfold Xh
     simp only []
     rw [AF (by omega)]
 rw [hloop,Option.bind_some]
 simp only [BM]
 have hA:∀ q ∈ flat W,q.2.1<=2147483647:=fun q hq=>(iY (d.vd.ok q hq)).2
 have hlast:c.1<=Fy c.1 c.2.2.1.reverse/\Fy c.1 c.2.2.1.reverse<=2147483647:=by
   unfold Fy
   cases hg:c.2.2.1.reverse[c.2.2.1.reverse.length - 1]? with
   | none=>exact ⟨Int.le_refl _,hmax⟩
   | some h =>
     have hm:=hgs h (List.mem_reverse.1 (List.mem_of_getElem? hg))
     have:=(d.Cc h hm).sq
     show c.1<=mx c.1 h.1/\mx c.1 h.1<=2147483647
     unfold mx
     split <;> omega
 have hfirst:0<=c.1:=by have:=hfl.1; omega
 have hnx:=gQ c.2.2.2 (flat W) (Fy c.1 c.2.2.1.reverse) hA hlast.2
 rw [AE hfr,AE hlast.1,Iz (by omega) (by omega),AE (by omega),cW hnd hlv]
 congr 1
 exact decide_eq_true (by omega)
end Go.Proofs.YthoimblkpcikdaaGreatDoor.PureChainLinks

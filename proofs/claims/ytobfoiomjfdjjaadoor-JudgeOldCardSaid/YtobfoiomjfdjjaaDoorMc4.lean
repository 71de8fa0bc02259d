/- The machine: abstract values and stores, and the laws by which a walk goes through code. Its parts in order. -/
import Derived.Test.YtobfoiomjfdjjaaDoorMc3
import Derived.Shelf.Unicode.DecodeSlow
import Derived.Below
import Derived.Lib.LaidU8
import Derived.Shelf.SlSortCmp.NoneTotal
import Derived.Shelf.Strings.Builder1
import Derived.Shelf.Slices.In.SortAlone
import Derived.Shelf.Slices.In.SortNone
set_option linter.unusedVariables false
set_option linter.unusedSimpArgs false
set_option linter.constructorNameAsVariable false
namespace Go.Proofs.YtobfoiomjfdjjaaDoor.Mc
open Go.RowKit
variable [Mo]
variable {P:Program}{D:Ah}
inductive Way (ops:Array Oper):Nat->Nat->Prop where
 | one {i j:Nat} (h:depOn ops i j=true):Way ops i j
 | step {i k j:Nat} (h:depOn ops i k=true) (w:Way ops k j):Way ops i j
omit [Mo] in
theorem Way.down {ops:Array Oper}{p:Nat->Prop}(hd:∀ a b,p a->depOn ops a b=true->p b){i j:Nat}(w:Way ops i j)(hi:p i):p j:=by
 induction w with
 | one h=>exact hd _ _ hi h
 | step h _ ih=>exact ih (hd _ _ hi h)
section
variable {ops:Array Oper}{t:Nat->V}{s:AE}{n:Nat}{an:List Nat}{Bb:List V}{us:Nat->XS}{ns:Nat->List Nat}{B:BB}
def acc (us:Nat->XS)(f:Nat->Bool):Nat->XS
 | 0=>[]
 | k+1=>cond (f k) (us k) [] ++ acc us f k
structure WY (ops:Array Oper)(n:Nat)(us:Nat->XS)(ns:Nat->List Nat):Prop where
 fit:∀ (i:Nat) (o:Oper) (d:Nat),ops[i]? = some o->o.dst=some d->d < n
 uniq:∀ (i:Nat) (o:Oper) (d:Nat),ops[i]? = some o->o.dst=some d->MK ops d=some i
 reads:∀ i,i < ops.size->∀ d ∈ EF ops i,∀ j,MK ops d=some j->depOn ops i j=true\/depOn ops j i=true\/i=j
 low:∀ i j,depOn ops i j=true->j < i
 fK:∀ i j,i < ops.size->j < ops.size->i ≠ j->Way ops i j\/Way ops j i\/∀ m x,lk (us j) m=some x->m ∉ ns i/\lk (us i) m=none
def Bg (i j:Nat):Bool:=Nat.blt j i
def Za (P:Program)(ops:Array Oper)(t:Nat->V)(s:AE)(n:Nat)(an:List Nat)(Bb:List V)(us:Nat->XS)(ns:Nat->List Nat)(i:Nat):Prop :=
 ∀ st:St,st.n=n->st.a=an->(∀ d ∈ EF ops i,st.t d=tL ops t Bb (Bg i) d)->(∀ m ∈ ns i,st.s m=over s (acc us (Bg i) ops.size) m)->Xy P AM ops (oA ops i) st (Rt Bb i) (over st.s (us i))
structure Inv2 (B:BB)(ops:Array Oper)(t:Nat->V)(s:AE)(n:Nat)(an:List Nat)(Bb:List V)(us:Nat->XS)(listed:Array Bool)(a:Act)(w:World):Prop where
 size:listed.size=ops.size
 down:∀ i j,Lf listed i=true->depOn ops i j=true->Lf listed j=true
 defers:a.defers=[]
 rel:∃ F loc,Rel AM B F loc ⟨tL ops t Bb (Lf listed),over s (acc us (Lf listed) ops.size),n,an⟩ a.tmps w
omit [Mo] in
theorem CL (s:AE):∀ (u:XS) (m:Nat),over s u m=match lk u m with | some x=>some (x.map XO.enc) | none=>s m
 | [],m=>rfl
 | (o,x) :: u,m=>by
   rw [over,lk]
   by_cases h:m=o
   · subst h; rw [AA]; simp
   · have hb:Nat.beq o m=false:=by rw [<- Bool.not_eq_true,Nat.beq_eq]; exact fun e=>h e.symm
     rw [AJ _ _ h,hb,cond_false]; exact CL s u m
omit [Mo] in
theorem EH {us:Nat->XS}{f g:Nat->Bool}{m:Nat}:∀ (k:Nat),(∀ j,j < k->f j=g j\/lk (us j) m=none)->lk (acc us f k) m=lk (acc us g k) m
 | 0,_=>rfl
 | k+1,h=>by
   simp only [acc,AR]
   rw [EH k (fun j hj=>h j (by omega))]
   rcases h k (by omega) with h1 | h1
   · rw [h1]
   · cases hf:f k <;> cases hg:g k <;> simp [lk,h1]
theorem TZ (hc : WY ops n us ns) (hl:∀ i,i < ops.size->Za P ops t s n an Bb us ns i) {listed:Array Bool} {a:Act} {w:World} (hI:Inv2 B ops t s n an Bb us listed a w) {i:Nat} (hi:i ∈ Region.ready .any ops listed)
   {Q':Exit->Act->World->Prop} {K:Act->World->Prop} (hK:∀ a' w', Inv2 B ops t s n an Bb us (listed.setIfInBounds i true) a' w' -> K a' w'):wpOp P ops Q' i K a w:=by
 obtain ⟨his,hL0,hdep⟩:=GC hI.size hi
 obtain ⟨F,loc,hR⟩:=hI.rel
 have hil:i < listed.size:=by rw [hI.size]; exact his
 have ho:ops[i]? = some ops[i]:=by simp [his]
 generalize hoo:ops[i]=o at ho
 have hoA:oA ops i=o:=by unfold oA; rw [Array.getElem?_toList,ho]; rfl
 have unord:∀ j,Lf listed j ≠ Bg i j->j < ops.size->j ≠ i/\¬ Way ops i j/\¬ Way ops j i:=by
   intro j hne hj
   have hji:j ≠ i:=by
     rintro rfl
     apply hne
     rw [hL0]; symm; unfold Bg; rw [<- Bool.not_eq_true,Nat.blt_eq]; omega
   refine ⟨hji,fun hw=>hne ?_,fun hw=>hne ?_⟩
   · have h1:Lf listed j=true:=by
       cases hw with
       | one h=>exact hdep _ h
       | step h w=>exact w.down (p:=fun q=>Lf listed q=true) (fun a b h1 h2=>hI.down a b h1 h2) (hdep _ h)
     have h2:j < i:=hw.down (p:=fun q=>q < i\/q=i) (fun a b h1 h2=>by have:=hc.low _ _ h2; omega) (.inr rfl) |>.elim id (fun h=>absurd h hji)
     rw [h1]; unfold Bg; symm; rw [Nat.blt_eq]; exact h2
   · have h1:Lf listed j=false:=by
       rw [<- Bool.not_eq_true]
       intro hb
       have:=hw.down (p:=fun q=>Lf listed q=true) (fun a b h1 h2=>hI.down a b h1 h2) hb
       rw [hL0] at this; cases this
     have h2:i < j:=hw.down (p:=fun q=>q < j\/q=j) (fun a b h1 h2=>by have:=hc.low _ _ h2; omega) (.inr rfl) |>.elim id (fun h=>absurd h.symm hji)
     rw [h1]; unfold Bg; symm; rw [<- Bool.not_eq_true,Nat.blt_eq]; omega
 have hnone:∀ m,(m ∈ ns i\/lk (us i) m ≠ none)->∀ j,j < ops.size->Lf listed j=Bg i j\/lk (us j) m=none:=by
   intro m hm j hj
   by_cases h:Lf listed j=Bg i j
   · exact .inl h
   · right
     obtain ⟨h1,h2,h3⟩:=unord j h hj
     rcases hc.fK i j his hj (fun e=>h1 e.symm) with h4 | h4 | h4
     · exact absurd h4 h2
     · exact absurd h4 h3
     · cases hx:lk (us j) m with
       | none=>rfl
       | some x =>
         obtain ⟨h5,h6⟩:=h4 m x hx
         rcases hm with hm | hm
         · exact absurd hm h5
         · exact absurd h6 hm
 have law:=hl i his ⟨Co (fun x=>x) (tL ops t Bb (Lf listed)) (EF ops i),over s (acc us (Lf listed) ops.size),n,an⟩ rfl rfl (fun d hd=>by
     show Co _ _ _ d=_
     rw [IC,if_pos hd]
     unfold tL
     cases hq:MK ops d with
     | none=>rfl
     | some q =>
       simp only
       obtain ⟨oq,hoq,_⟩:=ED hq
       have hqs:=(Array.getElem?_eq_some_iff.1 hoq).1
       have:Lf listed q=Bg i q:=by
         by_cases h:Lf listed q=Bg i q
         · exact h
         · exfalso
           obtain ⟨h1,h2,h3⟩:=unord q h hqs
           rcases hc.reads i his d hd q hq with h4 | h4 | h4
           · exact h2 (.one h4)
           · exact h3 (.one h4)
           · exact h1 h4.symm
       rw [this]) (fun m hm=>by
     show over s _ m=over s _ m
     rw [CL,CL,EH ops.size (hnone m (.inl hm))])
 simp only [hoA] at law
 have hRI:Rel AM B F loc ⟨Co (fun x=>x) (tL ops t Bb (Lf listed)) (EF ops i),over s (acc us (Lf listed) ops.size),n,an⟩ a.tmps w:=by
   refine ⟨hR.s,fun d=>?_,hR.n,hR.a⟩
   show AF w F loc (Co (fun x=>x) (tL ops t Bb (Lf listed)) (EF ops i) d) _
   rcases Iz (fun x=>x) (tL ops t Bb (Lf listed)) (EF ops i) d with ⟨h1,h2⟩ | h1
   · rw [h1]; exact hR.t d
   · rw [h1]; exact .dead _
 have hnew:∀ d,Lf (listed.setIfInBounds i true) d=(Nat.beq d i || Lf listed d):=fun d=>VE hil
 have hdown:∀ p q,Lf (listed.setIfInBounds i true) p=true->depOn ops p q=true->Lf (listed.setIfInBounds i true) q=true:=by
   intro p q hp hd
   rw [hnew] at hp ⊢
   simp only [Bool.or_eq_true] at hp ⊢
   rcases hp with hp | hp
   · rw [Nat.eq_of_beq_eq_true hp] at hd; exact .inr (hdep q hd)
   · exact .inr (hI.down _ _ hp hd)
 have hfit:fits ⟨tL ops t Bb (Lf listed),over s (acc us (Lf listed) ops.size),n,an⟩ o.dst=true:=by
   unfold fits
   cases hd:o.dst with
   | none=>rfl
   | some d=>simpa using hc.fit i o d ho hd
 have hput : ∀ (s':AE),St.put ⟨tL ops t Bb (Lf listed),over s (acc us (Lf listed) ops.size),n,an⟩ o.dst (Rt Bb i) s' = ⟨tL ops t Bb (Lf (listed.setIfInBounds i true)),s', n,an⟩:=by
   intro s'
   have:(match o.dst with | some d=>Ae (tL ops t Bb (Lf listed)) d (Rt Bb i) | none=>tL ops t Bb (Lf listed))=tL ops t Bb (Lf (listed.setIfInBounds i true)):=by
     funext d
     cases hd:o.dst with
     | none =>
       show tL ops t Bb (Lf listed) d=_
       unfold tL
       cases hq:MK ops d with
       | none=>rfl
       | some q =>
         obtain ⟨oq,hoq,hdq⟩:=ED hq
         have:Nat.beq q i=false:=by
           rw [<- Bool.not_eq_true,Nat.beq_eq]
           rintro rfl
           rw [ho] at hoq; cases hoq; rw [hd] at hdq; cases hdq
         simp only [hnew,this,Bool.false_or]
     | some d' =>
       show Ae (tL ops t Bb (Lf listed)) d' (Rt Bb i) d=_
       by_cases hdd:d=d'
       · subst hdd
         rw [AA]
         unfold tL
         rw [hc.uniq i o d ho hd]
         simp only [hnew,Nat.beq_refl,Bool.true_or,cond_true]
       · rw [AJ _ _ hdd]
         unfold tL
         cases hq:MK ops d with
         | none=>rfl
         | some q =>
           obtain ⟨oq,hoq,hdq⟩:=ED hq
           have:Nat.beq q i=false:=by
             rw [<- Bool.not_eq_true,Nat.beq_eq]
             rintro rfl
             rw [ho] at hoq; cases hoq; rw [hd] at hdq; exact hdd (Option.some.inj hdq).symm
           simp only [hnew,this,Bool.false_or]
   exact congrArg (fun t=>St.mk t s' n an) this
 have hsto : over (over s (acc us (Lf listed) ops.size)) (us i)=over s (acc us (Lf (listed.setIfInBounds i true)) ops.size):=by
   funext m
   rw [CL,CL,CL]
   have key:∀ k,i < k->k<=ops.size->lk (acc us (Lf (listed.setIfInBounds i true)) k) m=match lk (us i) m with | some x=>some x | none=>lk (acc us (Lf listed) k) m:=by
     intro k
     induction k with
     | zero=>intro h; omega
     | succ k ih =>
       intro hik hks
       simp only [acc,AR]
       by_cases hki:k=i
       · subst hki
         have e1:Lf (listed.setIfInBounds k true) k=true:=by rw [hnew]; simp
         rw [e1,hL0,cond_true,cond_false]
         have e2:lk (acc us (Lf (listed.setIfInBounds k true)) k) m=lk (acc us (Lf listed) k) m:=EH k fun j hj=>.inl (by
           rw [hnew]
           have:Nat.beq j k=false:=by rw [<- Bool.not_eq_true,Nat.beq_eq]; omega
           rw [this,Bool.false_or])
         rw [e2]
         simp only [lk]
         cases lk (us k) m <;> rfl
       · have e1 : Lf (listed.setIfInBounds i true) k=Lf listed k:=by
           rw [hnew]
           have:Nat.beq k i=false:=by rw [<- Bool.not_eq_true,Nat.beq_eq]; exact hki
           rw [this,Bool.false_or]
         rw [e1,ih (by omega) (by omega)]
         cases hx:lk (us i) m with
         | none=>rfl
         | some x =>
           simp only
           have:lk (cond (Lf listed k) (us k) []) m=none:=by
             cases hLk:Lf listed k with
             | false=>rfl
             | true =>
               rcases hnone m (.inr (by rw [hx]; simp)) k (by omega) with h | h
               · exfalso
                 rw [hLk] at h
                 have:k < i:=by unfold Bg at h; rw [eq_comm,Nat.blt_eq] at h; exact h
                 omega
               · exact h
           rw [this]
   rw [key ops.size his (Nat.le_refl _)]
   cases lk (us i) m <;> rfl
 have fin:∀ (x:Value) (F':Nat->Prop) (loc':Nat->Option Loc) (w':World) (s':AE),s' = over (over s (acc us (Lf listed) ops.size)) (us i)->AK AM B w' F' loc' s' -> Kept w F w' F' -> Ak loc loc' -> AF w' F' loc' (Rt Bb i) x->K (a.put o.dst x) w':=by
   intro x F' loc' w' s' hs' hS hkp hsm hv
   rw [hs', hsto] at hS
   refine hK _ _ ⟨by simp [hI.size],hdown,by cases hd:o.dst <;> simp [Act.put,hI.defers],F', loc', ?_⟩
   have:=hR.put hfit hS hkp hsm hv
   rw [hput] at this
   exact this
 unfold wpOp
 rw [ho]
 simp only
 rcases law with ⟨hw,hok⟩ | ⟨hw,hv,hs⟩
 · rw [if_pos (Ch hRI hw)]
   exact .inl (hok B F loc a w hRI K Q' fun x F' loc' w' h1 h2 h3 h4=>fin x F' loc' w' _ rfl h1 h2 h3 h4)
 · rw [if_neg (by rw [Ch hRI hw]; simp)]
   refine fin undef F loc w (over s (acc us (Lf listed) ops.size)) hs.symm hR.s (Kept.refl _ _) (Ak.refl _) ?_
   rw [hv]; exact .tp [] [] (fun _=>undef) rfl (fun j hj=>by simp at hj) (fun j x hj=>by simp at hj)
theorem Rf (hc:WY ops n us ns) (hl:∀ i,i < ops.size->Za P ops t s n an Bb us ns i) {Q':Exit->Act->World->Prop}
   (hQ:∀ (a:Act) (w:World) (listed:Array Bool),Inv2 B ops t s n an Bb us listed a w->(∀ i,i < ops.size->Lf listed i=true)->Q' .normal a w) :
   ∀ (fuel:Nat) (listed:Array Bool) (a:Act) (w:World) (U:List Nat),Inv2 B ops t s n an Bb us listed a w->U.length<=fuel->(∀ i,i < ops.size->Lf listed i=true\/i ∈ U)->wpAny P .any ops Q' fuel listed a w
 | 0,listed,a,w,U,hI,hU,hcov=>by
   have hall:∀ i,i < ops.size->Lf listed i=true:=fun i hi=>by
     rcases hcov i hi with h | h
     · exact h
     · have:U=[]:=List.eq_nil_of_length_eq_zero (by omega)
       rw [this] at h; cases h
   refine ⟨?_,hQ a w listed hI hall⟩
   cases hr:Region.ready .any ops listed with
   | nil=>rfl
   | cons x xs =>
     obtain ⟨h1,h2,_⟩:=GC hI.size (show x ∈ Region.ready .any ops listed by rw [hr]; simp)
     rw [hall x h1] at h2; cases h2
 | fuel+1,listed,a,w,U,hI,hU,hcov=>by
   refine ⟨fun h0=>?_,fun i hi=>?_⟩
   · refine hQ a w listed hI fun i hi=>?_
     by_cases hb:Lf listed i=true
     · exact hb
     · exfalso
       obtain ⟨j,hj,hj0,hjl⟩:=Sv ⟨i,hi,by simpa using hb⟩
       have:=UP hI.size hj hj0 fun q hq=>hjl q (hc.low _ _ hq)
       rw [h0] at this; cases this
   · obtain ⟨his,hL0,_⟩:=GC hI.size hi
     have hil:i < listed.size:=by rw [hI.size]; exact his
     refine TZ hc hl hI hi fun a' w' hI'=>Rf hc hl hQ fuel _ a' w' (U.erase i) hI' ?_ fun j hj=>?_
     · rcases hcov i his with h | h
       · rw [h] at hL0; cases hL0
       · rw [List.length_erase_of_mem h]; omega
     · rw [VE hil]
       by_cases hji:j=i
       · subst hji; left; simp
       · rcases hcov j hj with h | h
         · left; rw [h]; simp
         · right; exact (List.mem_erase_of_ne hji).2 h
theorem Tr.any {id:Nat} {Q:Exit->St->Prop} (hm:P.follows .mixedOrders=true) (hc:WY ops n us ns) (hl:∀ i,i < ops.size->Za P ops t s n an Bb us ns i)
   (k:Q .normal ⟨tL ops t Bb (Bg ops.size),over s (acc us (Bg ops.size) ops.size),n,an⟩):Tr P AM (.region id ops true) ⟨t,s,n,an⟩ Q:=by
 intro B F loc a w hR hd
 refine wp_region_any hm (Rf (B:=B) hc hl ?_ _ _ _ _ (List.range ops.size) ?_ (by simp) (fun i hi=>.inr (List.mem_range.2 hi)))
 · intro a' w' listed hI hall
   obtain ⟨F', loc', hR'⟩:=hI.rel
   refine ⟨hI.defers,F', loc', _,?_,k⟩
   have e1:tL ops t Bb (Bg ops.size)=tL ops t Bb (Lf listed):=by
     funext d
     unfold tL
     cases hq:MK ops d with
     | none=>rfl
     | some q =>
       obtain ⟨oq,hoq,_⟩:=ED hq
       have hqs:=(Array.getElem?_eq_some_iff.1 hoq).1
       have:Bg ops.size q=true:=by unfold Bg; rw [Nat.blt_eq]; exact hqs
       simp only [hall q hqs,this,cond_true]
   have e2:over s (acc us (Bg ops.size) ops.size)=over s (acc us (Lf listed) ops.size):=by
     funext m
     rw [CL,CL,EH (g:=Lf listed) ops.size fun j hj=>.inl (by rw [hall j hj]; unfold Bg; rw [Nat.blt_eq]; exact hj)]
   rw [e1,e2]; exact hR'
 · have hL:∀ i,Lf (Array.replicate ops.size false) i=false:=fun i=>by
     unfold Lf
     by_cases hi:i < ops.size <;> simp [Array.getD_eq_getD_getElem?,hi]
   refine ⟨by simp,fun i j hi=>(by rw [hL] at hi; cases hi),hd,F,loc,?_⟩
   have e:tL ops t Bb (Lf (Array.replicate ops.size false))=t:=by
     funext d
     unfold tL
     cases MK ops d with
     | none=>rfl
     | some q=>simp only [hL,cond_false]
   have e2:over s (acc us (Lf (Array.replicate ops.size false)) ops.size)=s:=by
     funext m
     rw [CL,EH (g:=fun _=>false) ops.size fun j hj=>.inl (hL j)]
     have:∀ k,lk (acc us (fun _=>false) k) m=none:=by
       intro k; induction k with
       | zero=>rfl
       | succ k ih=>simpa [acc] using ih
     rw [this]
   rw [e,e2]
   have hk:Kept w F { w with drawn:=w.drawn+1 } F:=fun b hb=>⟨hb,rfl⟩
   exact ⟨MU hR.s,fun i=>(hR.t i).mono hk (Ak.refl _),hR.n,hR.a⟩
end
end Go.Proofs.YtobfoiomjfdjjaaDoor.Mc
namespace Go.Proofs.YtobfoiomjfdjjaaDoor.Mc
open Go.RowKit
variable [Mo]
set_option linter.constructorNameAsVariable false
variable {P:Program}{D:Ah}
omit [Mo] in
theorem MX {E:XE} {st:Aw} {d:Nat} {x y:X} (h:Te E st d=x) (hxy:y.enc=x.enc):AH E ⟨(d,y) :: st.t,st.s⟩=AH E st:=by
 have:CN ((d,y) :: st.t ++ E.t)=CN (st.t ++ E.t):=by
   rw [List.cons_append,IE]
   funext i
   by_cases hi:i=d
   · subst hi
     rw [AA,hxy,<- h]
     exact (JX E st i).symm
   · rw [AJ _ _ hi]
 unfold AH
 simp only [this]
def UY {R:Type}(ops:Array Oper)(E:XE)(o:Oper)(st:Aw)(kk:Aw->Option R):Option R :=
 match PS ops E o st,YI E o.dst with
 | some false,true=>kk (GG st o.dst (.tp []) [])
 | _,_=>none
def NA {R:Type} (ops:Array Oper) (E:XE) (o:Oper) (st:Aw) (run skip:Aw->Option R):Option R :=
 match o.guard with
 | none=>run st
 | some (j,w)=>match (ops[j]?).bind (·.dst) with
   | none=>none
   | some d=>match Te E st d with
     | .b q=>cond q (cond w (run ⟨(d,.b true) :: st.t,st.s⟩) (skip ⟨(d,.b true) :: st.t,st.s⟩)) (cond w (skip ⟨(d,.b false) :: st.t,st.s⟩) (run ⟨(d,.b false) :: st.t,st.s⟩))
     | .tp []=>skip st
     | _=>none
omit [Mo] in
theorem KY {R:Type} {ops:Array Oper} {E:XE} {o:Oper} {st:Aw} {run skip:Aw->Option R} {r:R} (h:NA ops E o st run skip=some r) :
   ∃ st', AH E st' = AH E st/\(run st' = some r\/skip st' = some r):=by
 unfold NA at h
 split at h
 · exact ⟨st,rfl,.inl h⟩
 · rename_i j w _
   split at h
   · cases h
   · rename_i d _
     split at h
     · rename_i q hq
       cases q with
       | true =>
         refine ⟨_,MX hq rfl,?_⟩
         cases w
         · exact .inr h
         · exact .inl h
       | false =>
         refine ⟨_,MX hq rfl,?_⟩
         cases w
         · exact .inl h
         · exact .inr h
     · exact ⟨st,rfl,.inr h⟩
     · cases h
def Yo (i:Nat):List (Nat × Nat)->List Nat
 | []=>[]
 | p :: l=>cond (Nat.beq p.1 i) (p.2 :: Yo i l) (Yo i l)
noncomputable def JV {R:Type}(D:Ah)(rows:Nat->Option Row)(Γ : List (Ar P))(ops:Array Oper)(E:XE)(fz:List (Nat × Nat)):Nat->List Oper->Aw->(Aw->Option R)->Option R
 | _,[],st,K=>K st
 | i,o :: l,st,K=>NA ops E o st (fun st'=>match DX E (Yo i fz) st' with
   | some st1=>Ld D rows Γ ops E 9 o st1 fun st2=>JV D rows Γ ops E fz (i+1) l st2 K
   | none=>none) (fun st'=>UY ops E o st' fun st2=>JV D rows Γ ops E fz (i+1) l st2 K)
theorem OU {R:Type}{ops:Array Oper}{E:XE}{o:Oper}{l:List Oper}{st:Aw}{kk:Aw->Option R}{Q:Exit->St->Prop}{r:R}(h:UY ops E o st kk=some r)
   (hk:∀ st', kk st' = some r->Ap P AM ops l (AH E st') Q):Ap P AM ops (o :: l) (AH E st) Q:=by
 unfold UY at h
 split at h
 · rename_i hw hf
   refine Ap.WO (Ea hw) hf ?_
   have:=Be E st o.dst (.tp []) []
   simp only [over] at this
   have e:(X.tp []).enc=vU:=rfl
   rw [e] at this
   rw [<- this]; exact hk _ h
 · cases h
theorem Dm (hg:Good P D) {R:Type} {rows:Nat->Option Row} {Γ : List (Ar P)} {ops:Array Oper} {E:XE} {fz:List (Nat × Nat)} {Q:Exit->St->Prop} {r:R}:∀ (l:List Oper) (i:Nat) (st:Aw) (K:Aw->Option R),JV D rows Γ ops E fz i l st K=some r ->
   (∀ st', K st' = some r->Q .normal (AH E st'))->Ap P AM ops l (AH E st) Q
 | [],i,st,K,h,hk=>Ap.nil (hk st h)
 | o :: l,i,st,K,h,hk=>by
   obtain ⟨st', he,h⟩:=KY h
   rw [<- he]
   rcases h with h | h
   · split at h
     · rename_i st1 hf
       exact Ap.conv (Cd hf) (Da hg 9 o st1 _ h fun st2 h2=>Dm hg l (i+1) st2 K h2 hk)
     · cases h
   · exact OU h fun st2 h2=>Dm hg l (i+1) st2 K h2 hk
mutual
def X.names:X->List Nat
 | .sl _ o=>[o]
 | .sw o _ _=>[o]
 | .pt o _=>[o]
 | .pe o _ _=>[o]
 | .mp o=>[o]
 | .it o=>[o]
 | .sp o=>[o]
 | .fn _ l=>GV l
 | .ag l=>GV l
 | .tp l=>GV l
 | .BE _ x=>x.names
 | _=>[]
def GV:List X->List Nat
 | []=>[]
 | x :: l=>x.names ++ GV l
end
def WR (l:List Nat):List Nat->List Nat
 | []=>l
 | n :: k=>WR (cond (Bf l n) l (l ++ [n])) k
def fH (g:XG)(n:Nat):List Nat:=match gx g n with | some (.bx _ cells)=>GV cells | _=>[]
def reach (g:XG):Nat->List Nat->List Nat
 | 0,l=>l
 | k+1,l=>reach g k (WR l (l.flatMap (fH g)))
def XB (E:XE)(st:Aw)(o:Oper):List Nat :=
 match Yn o.op with
 | some (fop,args)=>reach (gE E st) 5 (WR [] (GV ((fop :: args).map (UA E st)))) ++ (List.range 10).map fun j=>400000+Ff o.dst * 100+j
 | none=>match o.op with
   | .move _=>[]
   | .assign _=>[]
   | .pick _ _ _=>[]
   | .extract _ _=>[]
   | .field _ _ _=>[]
   | .unOp _ _ _=>[]
   | .makeFunc _ _ _=>[]
   | .makeInterface _ _=>[]
   | .typeAssert _ _ _ _=>[]
   | _=>WR [Ff o.dst] (GV (o.op.operands.toList.map (UA E st)))
def gR (ns:List Nat)(g:XG):XG:=fun m=>cond (Bf ns m) (g m) (some none)
def Nt (g:XG)(f:FuncId)(xs:List X):List (Ar P)->WT P
 | []=>.bad
 | C :: Γ => cond (Nat.beq C.f f) (match FC C g xs with
   | .call y ρ=>.call C y ρ
   | _=>Nt g f xs Γ) (Nt g f xs Γ)
theorem Ge {g:XG} {f:FuncId} {xs:List X}:∀ {Γ : List (Ar P)} {C:Ar P} {y:Tup C.h} {ρ:Ren},Nt g f xs Γ = .call C y ρ->C.f=f/\FC C g xs=.call y ρ
 | [],C,y,ρ,h=>by cases h
 | C' :: Γ,C,y,ρ,h=>by
   simp only [Nt] at h
   cases hc:Nat.beq C'.f f with
   | false=>rw [hc] at h; exact Ge h
   | true =>
     rw [hc] at h
     simp only [cond_true] at h
     split at h
     · rename_i y' ρ' hci
       cases h
       exact ⟨Nat.eq_of_beq_eq_true hc,hci⟩
     · exact Ge h
def Nf {R:Type} (D:Ah) (rows:Nat->Option Row) (Γ : List (Ar P)) (ops:Array Oper) (E:XE) (o:Oper) (st:Aw) (g:XG) (kk:X->XS->Option R):Option R :=
 match PS ops E o st with
 | some true=>match Jx D (UA E st) o.op with
   | some fx=>match fx with
     | some (f,xs)=>match Nt g f xs Γ with
       | .call C y ρ=>(C.F y).bind fun r=>Aj (C.R.map (·.h)) r fun i l =>
           cond (Ft g ρ (fresh ρ (Ff o.dst) (DV C.R i).o) C.kp (DV C.R i).o) (kk (Ce (DV C.R i) ρ (Ff o.dst) l).1 (Ce (DV C.R i) ρ (Ff o.dst) l).2) none
       | _=>none
     | none=>none
   | none=>match dN D rows g (UA E st) o with
     | .ok v u=>kk v u
     | .Bl q v u=>Bl q (kk v u)
     | .Nk _ m f=>m.bind fun a=>kk (f a).1 (f a).2
     | .cs c v1 u1 v2 u2=>cond c (kk v1 u1) (kk v2 u2)
     | _=>none
 | some false=>kk (.tp []) []
 | none=>none
def Mw (P:Program)(ops:Array Oper)(i:Nat)(Gc:St)(ns:List Nat)(v:V)(u:XS):Prop :=
 ∀ st:St,st.n=Gc.n->st.a=Gc.a->(∀ d ∈ EF ops i,st.t d=Gc.t d)->(∀ m ∈ ns,st.s m=Gc.s m)->Xy P AM ops (oA ops i) st v (over st.s u)
omit [Mo] in
theorem LA {ops:Array Oper} {i:Nat} (hi:i < ops.size) {st Gc:St} (hn:st.n=Gc.n) (ht:∀ d ∈ EF ops i,st.t d=Gc.t d):want ops (oA ops i) st=want ops (oA ops i) Gc:=by
 have ho:ops[i]? = some ops[i]:=by simp [hi]
 have hoA:oA ops i=ops[i]:=by unfold oA; rw [Array.getElem?_toList,ho]; rfl
 rw [hoA]
 unfold want
 cases hgd:ops[i].guard with
 | none=>rfl
 | some jw =>
   obtain ⟨j,w⟩:=jw
   simp only
   cases hd:(ops[j]?).bind (·.dst) with
   | none=>rfl
   | some d =>
     simp only
     have:d ∈ EF ops i:=by
       unfold EF
       rw [ho]
       unfold Oper.looksAt
       simp [hgd,hd]
     rw [hn,ht d this]
omit [Mo] in
theorem Sw {ops:Array Oper} {i:Nat} (hi:i < ops.size) {st Gc:St} (ht:∀ d ∈ EF ops i,st.t d=Gc.t d):∀ x ∈ (oA ops i).op.operands.toList,ev AM st.t x=ev AM Gc.t x:=by
 have ho:ops[i]? = some ops[i]:=by simp [hi]
 have hoA:oA ops i=ops[i]:=by unfold oA; rw [Array.getElem?_toList,ho]; rfl
 intro x hx
 cases x with
 | tmp d =>
   have:d ∈ EF ops i:=by
     unfold EF
     rw [ho]
     unfold Oper.looksAt
     rw [hoA] at hx
     simp only [List.mem_append,List.mem_filterMap]
     exact .inl ⟨_,hx,rfl⟩
   exact ht d this
 | _=>rfl
end Go.Proofs.YtobfoiomjfdjjaaDoor.Mc
namespace Go.Proofs.YtobfoiomjfdjjaaDoor.Mc
open Go.RowKit
variable [Mo]
set_option linter.constructorNameAsVariable false
variable {P:Program}{D:Ah}
theorem NO (hg : Good P D) {R:Type} {rows:Nat->Option Row} {Γ : List (Ar P)} {ops:Array Oper} {E:XE} {i:Nat} (hi:i < ops.size) {st:Aw} {ns:List Nat} {kk:X->XS->Option R} {r:R}
   (h:Nf D rows Γ ops E (oA ops i) st (gR ns (gE E st)) kk=some r):∃ v u,kk v u=some r/\Mw P ops i (AH E st) ns v.enc u:=by
 have agree:∀ (st1:St),(∀ m ∈ ns,st1.s m=(AH E st).s m)->Ad (gR ns (gE E st)) st1.s:=by
   intro st1 hs
   have h0:=Nj E st
   constructor
   · intro o x hx
     unfold gR at hx
     cases hk:Bf ns o with
     | false=>rw [hk] at hx; cases hx
     | true =>
       rw [hk] at hx
       rw [hs o (BL.1 hk)]; exact h0.is o x hx
   · intro d hd
     unfold gR at hd
     cases hk:Bf ns d with
     | false=>rw [hk] at hd; cases hd
     | true =>
       rw [hk] at hd
       rw [hs d (BL.1 hk)]; exact h0.no d hd
 have evs:∀ (st1:St),(∀ d ∈ EF ops i,st1.t d=(AH E st).t d)->∀ x ∈ (oA ops i).op.operands.toList,ev AM st1.t x=(UA E st x).enc:=by
   intro st1 ht x hx
   rw [Sw hi ht x hx]; exact Ja E st x
 unfold Nf at h
 split at h
 · rename_i hw
   have hw':=Ea hw
   have wants:∀ (st1:St),st1.n=(AH E st).n->(∀ d ∈ EF ops i,st1.t d=(AH E st).t d)->want ops (oA ops i) st1=some true:=by
     intro st1 hn ht
     rw [LA hi hn ht]; exact hw'
   split at h
   · rename_i fx hco
     split at h
     · rename_i f xs
       split at h
       · rename_i C y ρ hp
         obtain ⟨rfl,hci⟩:=Ge hp
         obtain ⟨z,hz,h⟩:=DH h
         have law:Aj (C.R.map (·.h)) z fun i' l=>Ft (gR ns (gE E st)) ρ (fresh ρ (Ff (oA ops i).dst) (DV C.R i').o) C.kp (DV C.R i').o=true ->
             Mw P ops i (AH E st) ns (Ce (DV C.R i') ρ (Ff (oA ops i).dst) l).1.enc (Ce (DV C.R i') ρ (Ff (oA ops i).dst) l).2:=by
           have all:∀ (hs:List (List Al)) (y:Dq hs) {A:Type 0} {p:A->Nat->List HV->Prop},(∀ a,Aj hs y (p a))->Aj hs y fun i l=>∀ a,p a i l:=by
             intro hs
             induction hs with
             | nil=>exact fun y=>y.elim
             | cons b t ih =>
               cases t with
               | nil=>exact fun y A p h a=>h a
               | cons c t =>
                 intro y
                 cases y with
                 | inl y=>exact fun h a=>h a
                 | inr z=>exact fun {A p} h=>ih z (p:=fun a i l=>p a (i+1) l) h
           have h3:=all _ z (A:={ st1:St // st1.n=(AH E st).n/\st1.a=(AH E st).a/\(∀ d ∈ EF ops i,st1.t d=(AH E st).t d)/\∀ m ∈ ns,st1.s m=(AH E st).s m })
             (p:=fun a i' l=>Ft (gR ns (gE E st)) ρ (fresh ρ (Ff (oA ops i).dst) (DV C.R i').o) C.kp (DV C.R i').o=true->Td P AM (oA ops i) a.1 (Ce (DV C.R i') ρ (Ff (oA ops i).dst) l).1.enc (over a.1.s (Ce (DV C.R i') ρ (Ff (oA ops i).dst) l).2))
             (fun a=>Lb hg (agree a.1 a.2.2.2.2) hco (evs a.1 a.2.2.2.1) hci (Ff (oA ops i).dst) hz)
           refine Hr _ _ ?_ h3
           intro i' l h4 hcb st1 hn ha ht hs
           exact .inl ⟨wants st1 hn ht,h4 ⟨st1,hn,ha,ht,hs⟩ hcb⟩
         obtain ⟨i', l,h1,h2⟩:=Hs _ z h law
         obtain ⟨hcb,h1⟩:=EZ (c:=Ft _ _ _ _ _) h1
         exact ⟨_,_,h1,h2 hcb⟩
       · cases h
     · cases h
   · have law:∀ (st1:St),(∀ d ∈ EF ops i,st1.t d=(AH E st).t d)->(∀ m ∈ ns,st1.s m=(AH E st).s m)->Au P (oA ops i) st1 (dN D rows (gR ns (gE E st)) (UA E st) (oA ops i)) :=
       fun st1 ht hs=>Oj hg (agree st1 hs) (evs st1 ht)
     split at h
     · rename_i v u hx
       rw [hx] at law
       exact ⟨v,u,h,fun st1 hn ha ht hs=>.inl ⟨wants st1 hn ht,CD.w (law st1 ht hs)⟩⟩
     · rename_i q v u hx
       rw [hx] at law
       obtain ⟨hq,h⟩:=EZ h
       exact ⟨v,u,h,fun st1 hn ha ht hs=>.inl ⟨wants st1 hn ht,CD.w (law st1 ht hs hq)⟩⟩
     · rename_i α m f hx
       rw [hx] at law
       obtain ⟨a,ha', h⟩:=DH h
       exact ⟨_,_,h,fun st1 hn ha ht hs=>.inl ⟨wants st1 hn ht,CD.w (law st1 ht hs a ha')⟩⟩
     · rename_i c v1 u1 v2 u2 hx
       rw [hx] at law
       cases hc:c with
       | true=>rw [hc,cond_true] at h; exact ⟨_,_,h,fun st1 hn ha ht hs=>.inl ⟨wants st1 hn ht,CD.w ((law st1 ht hs).1 hc)⟩⟩
       | false=>rw [hc,cond_false] at h; exact ⟨_,_,h,fun st1 hn ha ht hs=>.inl ⟨wants st1 hn ht,CD.w ((law st1 ht hs).2 hc)⟩⟩
     · cases h
 · rename_i hw
   have hw':=Ea hw
   refine ⟨.tp [],[],h,fun st1 hn ha ht hs=>.inr ⟨?_,rfl,rfl⟩⟩
   rw [LA hi hn ht]; exact hw'
 · cases h
structure TE where
 v:X
 u:XS
 ns:List Nat
def Cl (tr:List TE):List V:=tr.map fun e=>e.v.enc
def Ei (tr:List TE)(j:Nat):XS:=match tr[j]? with | some e=>e.u | none=>[]
def OH (tr:List TE)(j:Nat):List Nat:=match tr[j]? with | some e=>e.ns | none=>[]
def ao (masks:List Nat)(i j:Nat):Bool:=Nat.testBit (masks.getD i 0) j || Nat.testBit (masks.getD j 0) i
def UU (masks:List Nat)(tr:List TE):Bool :=
 (List.range tr.length).all fun j=>cond (Ei tr j).isEmpty true ((List.range tr.length).all fun i=>Nat.beq i j || ao masks i j || (Ei tr j).all fun p => !(Bf (OH tr i) p.1) && !(Bf ((Ei tr i).map (·.1)) p.1))
def TU (ops:Array Oper)(i:Nat):List Nat:=match ops[i]? with | some o=>(o.after.toList.filter (Region.binds .any)).map (·.on) | none=>[]
def Ur (ops:Array Oper)(masks:List Nat):Bool :=
 (List.range ops.size).all fun i=>Nat.beq ((TU ops i).foldl (fun m j=>m ||| ((1 <<< j) ||| masks.getD j 0)) 0) (masks.getD i 0)
def preB (ops:Array Oper)(n:Nat)(masks:List Nat):Bool :=
 (fP ops).all (fun d=>Nat.blt d n) && (List.range ops.size).all (fun j=>match ops[j]? with | some o=>(match o.dst with | some d=>(match MK ops d with | some i=>Nat.beq i j | none=>false) | none=>true) | none=>true)
 && (List.range ops.size).all (fun i=>(EF ops i).all fun d=>match MK ops d with | some j=>Bf (TU ops i) j || Bf (TU ops j) i || Nat.beq i j | none=>true)
 && (List.range ops.size).all (fun i=>(TU ops i).all fun j=>Nat.blt j i) && Ur ops masks
omit [Mo] in
theorem FT {ops:Array Oper} {i j:Nat}:depOn ops i j=true ↔ j ∈ TU ops i:=by
 unfold depOn TU
 cases ops[i]? with
 | none=>simp
 | some o =>
   simp only [List.mem_map,List.mem_filter]
   rw [Array.any_eq_true']
   constructor
   · rintro ⟨e,he,hb⟩
     simp only [Bool.and_eq_true] at hb
     exact ⟨e,⟨by simpa using he,hb.1⟩,Nat.eq_of_beq_eq_true hb.2⟩
   · rintro ⟨e,⟨he,hb⟩,rfl⟩
     exact ⟨e,by simpa using he,by rw [hb]; simp⟩
omit [Mo] in
theorem Og {f:Nat->Nat} {b:Nat}:∀ (l:List Nat) (m:Nat),Nat.testBit (l.foldl (fun m j=>m ||| ((1 <<< j) ||| f j)) m) b=true->Nat.testBit m b=true\/∃ j ∈ l,j=b\/Nat.testBit (f j) b=true
 | [],m,h=>.inl h
 | j :: l,m,h=>by
   rcases Og l _ h with h1 | ⟨k,hk,h1⟩
   · simp only [Nat.testBit_or,Bool.or_eq_true] at h1
     rcases h1 with h1 | h1 | h1
     · exact .inl h1
     · refine .inr ⟨j,by simp,.inl ?_⟩
       rw [Nat.one_shiftLeft,Nat.testBit_two_pow] at h1
       exact of_decide_eq_true h1
     · exact .inr ⟨j,by simp,.inr h1⟩
   · exact .inr ⟨k,by simp [hk],h1⟩
omit [Mo] in
theorem Ow {ops:Array Oper} {masks:List Nat} (h:Ur ops masks=true) (hlow:∀ i j,depOn ops i j=true->j < i):∀ (i:Nat),i < ops.size->∀ j,Nat.testBit (masks.getD i 0) j=true->Way ops i j:=by
 intro i
 induction i using Nat.strongRecOn with
 | _ i ih =>
   intro hi j hb
   have:=List.all_eq_true.1 h i (List.mem_range.2 hi)
   rw [<- Nat.eq_of_beq_eq_true this] at hb
   rcases Og _ _ hb with h1 | ⟨k,hk,h1⟩
   · simp at h1
   · have hd:depOn ops i k=true:=FT.2 hk
     rcases h1 with rfl | h1
     · exact .one hd
     · exact .step hd (ih k (hlow _ _ hd) (Nat.lt_trans (hlow _ _ hd) hi) j h1)
structure ei (ops:Array Oper)(n:Nat)(masks:List Nat):Prop where
 fit:∀ (i:Nat) (o:Oper) (d:Nat),ops[i]? = some o->o.dst=some d->d < n
 uniq:∀ (i:Nat) (o:Oper) (d:Nat),ops[i]? = some o->o.dst=some d->MK ops d=some i
 reads:∀ i,i < ops.size->∀ d ∈ EF ops i,∀ j,MK ops d=some j->depOn ops i j=true\/depOn ops j i=true\/i=j
 low:∀ i j,depOn ops i j=true->j < i
 mask:Ur ops masks=true
omit [Mo] in
theorem Zb {ops:Array Oper}{n:Nat}{masks:List Nat}(h:preB ops n masks=true):ei ops n masks:=by
 simp only [preB,Bool.and_eq_true] at h
 obtain ⟨⟨⟨⟨h1,h2⟩,h3⟩,h4⟩,h5⟩:=h
 refine ⟨?_,?_,?_,?_,h5⟩
 · intro i o d ho hd
   have:=List.all_eq_true.1 h1 d (List.mem_filterMap.2 ⟨o,by rw [<- Array.getElem?_toList] at ho; exact List.mem_of_getElem? ho,hd⟩)
   simpa using this
 · intro i o d ho hd
   have hi:=(Array.getElem?_eq_some_iff.1 ho).1
   have:=List.all_eq_true.1 h2 i (List.mem_range.2 hi)
   simp only [ho,hd] at this
   split at this
   · rename_i j hj; rw [hj,Nat.eq_of_beq_eq_true this]
   · cases this
 · intro i hi d hd j hj
   have:=List.all_eq_true.1 (List.all_eq_true.1 h3 i (List.mem_range.2 hi)) d hd
   simp only [hj,Bool.or_eq_true] at this
   rcases this with (h | h) | h
   · exact .inl (FT.2 (BL.1 h))
   · exact .inr (.inl (FT.2 (BL.1 h)))
   · exact .inr (.inr (Nat.eq_of_beq_eq_true h))
 · intro i j hd
   have hi:=VP hd
   have:=List.all_eq_true.1 (List.all_eq_true.1 h4 i (List.mem_range.2 hi)) j (FT.1 hd)
   simpa using this
structure Path (P:Program)(ops:Array Oper)(E:XE)(t0:Nat->V)(s0:AE)(k:Nat)(st:Aw)(tr:List TE):Prop where
 len:tr.length=k
 t:(AH E st).t=tL ops t0 (Cl tr) (Bg k)
 s:(AH E st).s=over s0 (acc (Ei tr) (Bg k) k)
 law:∀ i,i < k->Mw P ops i ⟨tL ops t0 (Cl tr) (Bg i),over s0 (acc (Ei tr) (Bg i) i),E.n,E.a⟩ (OH tr i) (Rt (Cl tr) i) (Ei tr i)
omit [Mo] in
theorem IA {us us':Nat->XS}{f g:Nat->Bool}:∀ (k:Nat),(∀ j,j < k->f j=g j/\us j=us' j)->acc us f k=acc us' g k
 | 0,_=>rfl
 | k+1,h=>by
   simp only [acc,(h k (by omega)).1,(h k (by omega)).2]
   rw [IA k fun j hj=>h j (by omega)]
omit [Mo] in
theorem FB {tr:List TE}{e:TE}{j:Nat}(h:j < tr.length):Ei (tr ++ [e]) j=Ei tr j:=by unfold Ei; rw [List.getElem?_append_left h]
omit [Mo] in
theorem OO {tr:List TE}{e:TE}{j:Nat}(h:j < tr.length):OH (tr ++ [e]) j=OH tr j:=by unfold OH; rw [List.getElem?_append_left h]
omit [Mo] in
theorem Jk {tr:List TE}{e:TE}{j:Nat}(h:j < tr.length):Rt (Cl (tr ++ [e])) j=Rt (Cl tr) j:=by unfold Rt Cl; rw [List.map_append,List.getElem?_append_left (by simpa using h)]
omit [Mo] in
theorem UW {ops:Array Oper}{t0:Nat->V}{vs vs':List V}{f:Nat->Bool}(h:∀ j,f j=true->Rt vs j=Rt vs' j):tL ops t0 vs f=tL ops t0 vs' f:=by
 funext d
 unfold tL
 cases MK ops d with
 | none=>rfl
 | some j =>
   simp only
   cases hf:f j with
   | false=>rfl
   | true=>simp only [cond_true,h j hf]
omit [Mo] in
theorem Cx {i j:Nat}:Bg i j=true ↔ j < i:=by unfold Bg; rw [Nat.blt_eq]
theorem Path.step {ops:Array Oper} {E:XE} {t0:Nat->V} {s0:AE} {k:Nat} {st:Aw} {tr:List TE} {masks:List Nat} (hp:ei ops E.n masks) (h:Path P ops E t0 s0 k st tr) {o:Oper} (ho:ops[k]? = some o) {v:X} {u:XS} {ns:List Nat}
   (hl:Mw P ops k (AH E st) ns v.enc u):Path P ops E t0 s0 (k+1) (GG st o.dst v u) (tr ++ [⟨v,u,ns⟩]):=by
 have hlen:=h.len
 have hu:Ei (tr ++ [⟨v,u,ns⟩]) k=u:=by unfold Ei; rw [<- hlen]; simp
 have hns:OH (tr ++ [⟨v,u,ns⟩]) k=ns:=by unfold OH; rw [<- hlen]; simp
 have hv:Rt (Cl (tr ++ [⟨v,u,ns⟩])) k=v.enc:=by unfold Rt Cl; rw [<- hlen]; simp
 have hts:∀ i,i<=k->tL ops t0 (Cl (tr ++ [⟨v,u,ns⟩])) (Bg i)=tL ops t0 (Cl tr) (Bg i):=fun i hi=>UW fun j hj=>Jk (by have:=Cx.1 hj; omega)
 have hacc:∀ i,i<=k->acc (Ei (tr ++ [⟨v,u,ns⟩])) (Bg i) i=acc (Ei tr) (Bg i) i:=fun i hi=>IA i fun j hj=>⟨rfl,FB (by omega)⟩
 refine ⟨by simp [hlen],?_,?_,fun i hi=>?_⟩
 · rw [Be]
   have e1:((AH E st).put o.dst v.enc (over (AH E st).s u)).t=match o.dst with | some d=>Ae (AH E st).t d v.enc | none=>(AH E st).t:=rfl
   rw [e1,h.t,<- hts k (Nat.le_refl _)]
   have step:∀ j,j ≠ k->Bg (k+1) j=Bg k j:=by
     intro j hj
     rw [Bool.eq_iff_iff,Cx,Cx]; omega
   cases hd:o.dst with
   | none =>
     funext d
     show tL ops t0 (Cl (tr ++ [⟨v,u,ns⟩])) (Bg k) d=tL ops t0 (Cl (tr ++ [⟨v,u,ns⟩])) (Bg (k+1)) d
     unfold tL
     cases hq:MK ops d with
     | none=>rfl
     | some q =>
       obtain ⟨oq,hoq,hdq⟩:=ED hq
       have:q ≠ k:=by rintro rfl; rw [ho] at hoq; cases hoq; rw [hd] at hdq; cases hdq
       simp only [step q this]
   | some d' =>
     funext d
     show Ae _ d' v.enc d=_
     by_cases hdd:d=d'
     · subst hdd
       rw [AA]
       unfold tL
       rw [hp.uniq k o d ho hd]
       have:Bg (k+1) k=true:=Cx.2 (by omega)
       simp only [this,cond_true,hv]
     · rw [AJ _ _ hdd]
       unfold tL
       cases hq:MK ops d with
       | none=>rfl
       | some q =>
         obtain ⟨oq,hoq,hdq⟩:=ED hq
         have:q ≠ k:=by rintro rfl; rw [ho] at hoq; cases hoq; rw [hd] at hdq; exact hdd (Option.some.inj hdq).symm
         simp only [step q this]
 · rw [Be]
   show over (AH E st).s u=_
   rw [h.s]
   have:Bg (k+1) k=true:=Cx.2 (by omega)
   simp only [acc,this,cond_true,hu]
   have e2:acc (Ei (tr ++ [⟨v,u,ns⟩])) (Bg (k+1)) k=acc (Ei tr) (Bg k) k:=IA k fun j hj=>⟨by rw [Bool.eq_iff_iff,Cx,Cx]; omega,FB (by omega)⟩
   rw [e2]
   funext m
   rw [CL,CL,CL,AR]
   cases lk u m <;> rfl
 · by_cases hik:i=k
   · subst hik
     rw [hu,hns,hv,hts i (Nat.le_refl _),hacc i (Nat.le_refl _),<- h.t,<- h.s]
     exact hl
   · have hik':i < k:=by omega
     rw [hts i (by omega),hacc i (by omega),OO (by omega),FB (by omega),Jk (by omega)]
     exact h.law i hik'
omit [Mo] in
theorem PD {us:Nat->XS} {i:Nat}:∀ (k:Nat),i<=k->acc us (Bg i) k=acc us (Bg i) i
 | 0, h => by have:i=0:=by omega
              subst this; rfl
 | k + 1,h=>by
   by_cases hik:i=k+1
   · subst hik; rfl
   · simp only [acc]
     have:Bg i k=false:=by rw [<- Bool.not_eq_true,Cx]; omega
     rw [this,cond_false,List.nil_append]
     exact PD k (by omega)
theorem Path.done {ops:Array Oper} {E:XE} {Gc st:Aw} {tr:List TE} {masks:List Nat} (hp:ei ops E.n masks) (h:Path P ops E (AH E Gc).t (AH E Gc).s ops.size st tr) (hc:UU masks tr=true) {id:Nat} {Q:Exit->St->Prop} (hm:P.follows .mixedOrders=true)
   (k:Q .normal (AH E st)):Tr P AM (.region id ops true) (AH E Gc) Q:=by
 have chk:WY ops E.n (Ei tr) (OH tr):=by
   refine ⟨hp.fit,hp.uniq,hp.reads,hp.low,fun i j hi hj hij=>?_⟩
   have h1:=List.all_eq_true.1 hc j (List.mem_range.2 (by rw [h.len]; exact hj))
   cases he:(Ei tr j).isEmpty with
   | true =>
     right; right
     intro m x hx
     rw [List.isEmpty_iff] at he
     rw [he] at hx; cases hx
   | false =>
     rw [he,cond_false] at h1
     have h2:=List.all_eq_true.1 h1 i (List.mem_range.2 (by rw [h.len]; exact hi))
     simp only [Bool.or_eq_true] at h2
     rcases h2 with (h2 | h2) | h2
     · exact absurd (Nat.eq_of_beq_eq_true h2) hij
     · unfold ao at h2
       rw [Bool.or_eq_true] at h2
       rcases h2 with h2 | h2
       · exact .inl (Ow hp.mask hp.low i hi j h2)
       · exact .inr (.inl (Ow hp.mask hp.low j hj i h2))
     · right; right
       intro m x hx
       have h3:=List.all_eq_true.1 h2 _ (CP hx)
       simp only [Bool.and_eq_true,Bool.not_eq_true'] at h3
       refine ⟨fun hm=>?_,?_⟩
       · rw [BL.2 hm] at h3; cases h3.1
       · cases hl:lk (Ei tr i) m with
         | none=>rfl
         | some y =>
           have:=h3.2
           rw [BL.2 (List.mem_map.2 ⟨_,CP hl,rfl⟩)] at this; cases this
 have:=Tr.any (id:=id) (t:=(AH E Gc).t) (s:=(AH E Gc).s) (n:=E.n) (an:=E.a) (Bb:=Cl tr) (Q:=Q) hm chk (fun i hi=>?_) ?_
 · exact this
 · have hl:=h.law i hi
   intro st1 hn ha ht hs
   refine hl st1 hn ha ht fun m hm=>?_
   rw [hs m hm,PD ops.size (by omega)]
 · rw [<- h.t,<- h.s]; exact k
noncomputable def OQ {R:Type}(D:Ah)(rows:Nat->Option Row)(Γ : List (Ar P))(ops:Array Oper)(E:XE)(masks:List Nat):List Oper->Aw->List TE->(Aw->Option R)->Option R
 | [],st,tr,K=>Bl (UU masks tr) (K st)
 | o :: l,st,tr,K =>
   let step:=fun st'=>Nf D rows Γ ops E o st' (gR (XB E st' o) (gE E st')) fun v u=>OQ D rows Γ ops E masks l (GG st' o.dst v u) (tr ++ [⟨v,u,XB E st' o⟩]) K
   NA ops E o st step step
theorem Path.lit {ops:Array Oper}{E:XE}{t0:Nat->V}{s0:AE}{k:Nat}{st st':Aw}{tr:List TE}(h:Path P ops E t0 s0 k st tr)(he:AH E st' = AH E st):Path P ops E t0 s0 k st' tr :=
 ⟨h.len,by rw [he]; exact h.t,by rw [he]; exact h.s,h.law⟩
theorem Iu (hg:Good P D) {R:Type} {rows:Nat->Option Row} {Γ : List (Ar P)} {ops:Array Oper} {E:XE} {masks:List Nat} (hp:ei ops E.n masks) {Gc:Aw} {r:R}:∀ (l:List Oper) (k:Nat) (st:Aw) (tr:List TE) (K:Aw->Option R),
   ops.toList.drop k=l->k<=ops.size->Path P ops E (AH E Gc).t (AH E Gc).s k st tr->OQ D rows Γ ops E masks l st tr K=some r ->
   ∃ st' tr', Path P ops E (AH E Gc).t (AH E Gc).s ops.size st' tr' /\ UU masks tr' = true/\K st' = some r
 | [],k,st,tr,K,hl,hk,hpath,h=>by
   obtain ⟨hc,h⟩:=EZ h
   have:k=ops.size:=by
     have:=congrArg List.length hl
     simp at this; omega
   subst this
   exact ⟨st,tr,hpath,hc,h⟩
 | o :: l,k,st,tr,K,hl,hk,hpath,h=>by
   have hks:k < ops.size:=by
     have:=congrArg List.length hl
     simp at this; omega
   have ho:ops[k]? = some o:=by
     have:=congrArg (fun l=>l[0]?) hl
     simpa using this
   have hoA:oA ops k=o:=by unfold oA; rw [Array.getElem?_toList,ho]; rfl
   have hl':ops.toList.drop (k+1)=l:=by
     have:=congrArg (List.drop 1) hl
     rw [List.drop_drop] at this
     simpa [Nat.add_comm] using this
   simp only [OQ] at h
   obtain ⟨st', he,h⟩:=KY h
   have h:Nf D rows Γ ops E o st' (gR (XB E st' o) (gE E st')) (fun v u=>OQ D rows Γ ops E masks l (GG st' o.dst v u) (tr ++ [⟨v,u,XB E st' o⟩]) K)=some r:=h.elim id id
   rw [<- hoA] at h
   obtain ⟨v,u,h1,h2⟩:=NO hg hks h
   rw [hoA] at h1 h2
   exact Iu hg hp l (k+1) _ _ K hl' hks (Path.step hp (hpath.lit he) ho h2) h1
end Go.Proofs.YtobfoiomjfdjjaaDoor.Mc
namespace Go.Proofs.YtobfoiomjfdjjaaDoor.Mc
open Go.RowKit
variable [Mo]
set_option linter.constructorNameAsVariable false
variable {P:Program}{D:Ah}
inductive An where
 | nd
 | sq (a b:An)
 | jn (kt ko:List Nat) (ts:List (Nat × Hb)) (hs:List (List Al)) (a b:An)
 | lp (kt ko:List Nat) (L:Hb) (h:List Al) (ts:List (Nat × Hb)) (hs:List (List Al)) (a:An)
 | lc (kt ko:List Nat) (L:Hb) (h:List Al) (ts:List (Nat × Hb)) (hs:List (List Al)) (a:An)
 | mk (BF masks:List Nat)
 | fr (fz:List (Nat × Nat))
 | al (i:Nat) (a b:An)
 | am (o n:Nat) (a b:An)
def An.fst:An->An | .sq a _=>a | _=>.nd
def An.snd:An->An | .sq _ b=>b | _=>.nd
def An.ms:An->List Nat | .mk _ l=>l | _=>[]
def An.aC:An->List (Nat × Nat) | .fr l=>l | _=>[]
def An.fz:An->List Nat | .mk l _=>l | _=>[]
def fJ:X->Bool | .c _=>true | _=>false
def ZF (g:XG)(o n:Nat):Bool:=match gx g o with | some (.bx _ cells)=>Nat.beq cells.length n | _=>false
def An.at (E:XE)(st:Aw):An->An
 | .al i a b=>cond (fJ (Te E st i)) (a.at E st) (b.at E st)
 | .am o n a b=>cond (ZF (gE E st) o n) (a.at E st) (b.at E st)
 | a=>a
def Gu:Exit->Option Nat
 | .normal=>some 0
 | .ret=>some 1
 | .exit id=>some (id+2)
 | _=>none
def Fm {α:Type}(t:List (Nat × α)):List Nat->List (Nat × α)
 | []=>[]
 | i :: l=>match lk t i with | some x=>(i,x) :: Fm t l | none=>Fm t l
def FD {α:Type}(l:List Nat):List (Nat × α)->List (Nat × α)
 | []=>[]
 | p :: t=>cond (Bf l p.1) (FD l t) (p :: FD l t)
def Hh (kt ko:List Nat)(E:XE)(st:Aw):XE:=⟨Fm st.t kt ++ E.t,Fm st.s ko ++ E.s,E.n,E.a⟩
def TV (kt ko:List Nat)(st:Aw):Aw:=⟨FD kt st.t,FD ko st.s⟩
def FA (kt ko:List Nat)(st:Aw)(f:Aw):Aw:=⟨f.t ++ Fm st.t kt,f.s ++ Fm st.s ko⟩
omit [Mo] in
theorem Kb {α:Type} (t:List (Nat × α)):∀ (l:List Nat) (n:Nat),lk (Fm t l) n=if n ∈ l then lk t n else none
 | [],n=>by simp [Fm,lk]
 | i :: l,n=>by
   simp only [Fm]
   cases hl:lk t i with
   | none =>
     simp only []
     rw [Kb t l n]
     by_cases hn:n=i
     · subst hn; simp [hl]
     · simp [hn]
   | some x =>
     simp only [lk]
     cases hb:Nat.beq i n with
     | true=>have:=Nat.eq_of_beq_eq_true hb; subst this; simp [hl]
     | false =>
       have hn:¬ n=i:=by rintro rfl; simp at hb
       rw [cond_false,Kb t l n]; simp [hn]
omit [Mo] in
theorem HJ {α:Type} (l:List Nat):∀ (t:List (Nat × α)) (n:Nat),lk (FD l t) n=if n ∈ l then none else lk t n
 | [],n=>by simp [FD,lk]
 | (i, x) :: t,n=>by
   simp only [FD,lk]
   cases hk:Bf l i with
   | true =>
     rw [cond_true,HJ l t n]
     cases hb:Nat.beq i n with
     | true=>have:=Nat.eq_of_beq_eq_true hb; subst this; simp [BL.1 hk]
     | false=>rfl
   | false =>
     rw [cond_false,lk]
     cases hb:Nat.beq i n with
     | true =>
       have:=Nat.eq_of_beq_eq_true hb; subst this
       have:i ∉ l:=fun h=>by rw [BL.2 h] at hk; cases hk
       simp [this]
     | false=>rw [cond_false,HJ l t n]; rfl
omit [Mo] in
theorem Oz {α:Type}(l:List Nat)(t u:List (Nat × α))(n:Nat):lk (FD l t ++ (Fm t l ++ u)) n=lk (t ++ u) n:=by
 rw [AR,AR,AR,HJ,Kb]
 by_cases h:n ∈ l
 · rw [if_pos h,if_pos h]
 · rw [if_neg h,if_neg h]
omit [Mo] in
theorem Ui {t u:XT}(h:∀ i,lk t i=lk u i):CN t=CN u:=by funext i; unfold CN; rw [h]
omit [Mo] in
theorem OR {t u:XS}(h:∀ i,lk t i=lk u i):encS t=encS u:=by funext i; unfold encS; rw [h]
omit [Mo] in
theorem KV (kt ko:List Nat)(E:XE)(st:Aw):AH (Hh kt ko E st) (TV kt ko st)=AH E st:=by
 unfold AH Hh TV
 simp only
 rw [Ui (Oz kt st.t E.t),OR (Oz ko st.s E.s)]
omit [Mo] in
theorem RC (kt ko:List Nat)(E:XE)(st f:Aw):AH E (FA kt ko st f)=AH (Hh kt ko E st) f:=by
 unfold AH Hh FA
 simp only [List.append_assoc]
def Fo (E:XE)(hs:List (List Al)):Nat->List (Nat × Hb)->Nat->Aw->Option (Dq hs)
 | _,[],_,_=>none
 | i,(x,tp) :: ts,e,st=>cond (Nat.beq x e) (match Bh E tp st with
   | some l=>Fk hs i l
   | none=>Fo E hs (i+1) ts e st) (Fo E hs (i+1) ts e st)
def CG (ts:List (Nat × Hb))(i:Nat):Nat × Hb:=match ts[i]? with | some p=>p | none=>(0,⟨[],[]⟩)
omit [Mo] in
theorem FZ {E:XE} {hs:List (List Al)} {e:Nat} {st:Aw} {y:Dq hs} {ts0:List (Nat × Hb)}:∀ (ts:List (Nat × Hb)) (i:Nat),(∀ j,ts0[i+j]? = ts[j]?)->Fo E hs i ts e st=some y ->
   ∃ k l,(CG ts0 k).1=e/\Bh E (CG ts0 k).2 st=some l/\Fk hs k l=some y
 | [],i,_,h=>by cases h
 | (x, tp) :: ts,i,h0,h=>by
   have hn:∀ j,ts0[i+1+j]? = ts[j]? := fun j=>by have:=h0 (j+1); simpa [Nat.add_assoc,Nat.add_comm 1 j] using this
   simp only [Fo] at h
   cases hb:Nat.beq x e with
   | false=>rw [hb] at h; exact FZ ts (i+1) hn h
   | true =>
     rw [hb] at h
     simp only [cond_true] at h
     split at h
     · rename_i l hl
       have he:CG ts0 i=(x,tp):=by unfold CG; have:=h0 0; simp at this; rw [this]
       exact ⟨i,l,by rw [he]; exact Nat.eq_of_beq_eq_true hb,by rw [he]; exact hl,h⟩
     · exact FZ ts (i+1) hn h
def AX {α β:Type}(f:α->Option (α ⊕ β)):Nat->α->Option β
 | 0,_=>none
 | k+1,a=>(f a).bind (Aq (AX f k) some)
def Rg (E:XE)(L:Hb)(h:List Al)(ts:List (Nat × Hb))(hs:List (List Al))(e:Nat)(st:Aw):Option (Tup h ⊕ Dq hs) :=
 cond (Nat.beq e 0) (match Bh E L st with
   | some l=>match DS h l with | some y=>some (.inl y) | none=>none
   | none=>none) (match Fo E hs 0 ts e st with | some y=>some (.inr y) | none=>none)
def Lt {α β R:Type}(f:α->(α->Option R)->(β->Option R)->Option R):Nat->α->(β->Option R)->Option R
 | 0,_,_=>none
 | k+1,a,K=>f a (fun b=>Lt f k b K) K
def Re {R:Type}(E:XE)(L:Hb)(h:List Al)(ts:List (Nat × Hb))(hs:List (List Al))(Kin:Tup h->Option R)(Kout:Dq hs->Option R)(e:Nat)(st:Aw):Option R :=
 cond (Nat.beq e 0) (match Bh E L st with
   | some l=>match DS h l with | some y=>Kin y | none=>none
   | none=>none) (match Fo E hs 0 ts e st with | some y=>Kout y | none=>none)
noncomputable def exec (D:Ah) (rows:Nat->Option Row) (Γ : List (Ar P)) (fuel:Nat):Code->∀ {R:Type},An->XE->Aw->(Nat->Aw->Option R)->Option R
 | .skip,_,_,_,st,K=>K 0 st
 | .ret,_,_,_,st,K=>K 1 st
 | .exit id,_,_,_,st,K=>K (id+2) st
 | .region _ ops draw,_,an,E,st,K=>cond draw
     (Bl (preB ops E.n (an.at E st).ms) (match DX E (an.at E st).fz st with
       | some st'=>OQ D rows Γ ops E (an.at E st).ms ops.toList st' [] (K 0)
       | none=>none))
     (JV D rows Γ ops E (an.at E st).aC 0 ops.toList st (K 0))
 | .seq a b,_,an,E,st,K=>match an.at E st with
   | .jn kt ko ts hs A B =>
     (exec D rows Γ fuel a A (Hh kt ko E st) (TV kt ko st) (Fo (Hh kt ko E st) hs 0 ts)).bind fun y=>Aj hs y fun i l =>
       cond (Nat.beq (CG ts i).1 0) (exec D rows Γ fuel b B E (FA kt ko st (Ay (CG ts i).2 l)) K) (K (CG ts i).1 (FA kt ko st (Ay (CG ts i).2 l)))
   | an=>exec D rows Γ fuel a an.fst E st fun e st'=>cond (Nat.beq e 0) (exec D rows Γ fuel b an.snd E st' K) (K e st')
 | .cond c a b,_,an,E,st,K=>match UA E st c with
   | .b q=>cond q (exec D rows Γ fuel a (an.at E st).fst E st K) (exec D rows Γ fuel b (an.at E st).snd E st K)
   | _=>none
 | .block id c,_,an,E,st,K=>exec D rows Γ fuel c an E st fun e st'=>cond (Nat.beq e (id+2)) (K 0 st') (K e st')
 | .loop c,_,an,E,st,K=>match an.at E st with
   | .lp kt ko L h ts hs A=>match Bh (Hh kt ko E st) L (TV kt ko st) with
     | some l=>match DS h l with
       | some y0=>(AX (fun y=>exec D rows Γ fuel c A (Hh kt ko E st) (Ay L (BO h y)) (Rg (Hh kt ko E st) L h ts hs)) fuel y0).bind fun x=>Aj hs x fun i l =>
           K (CG ts i).1 (FA kt ko st (Ay (CG ts i).2 l))
       | none=>none
     | none=>none
   | .lc kt ko L h ts hs A=>match Bh (Hh kt ko E st) L (TV kt ko st) with
     | some l=>match DS h l with
       | some y0=>Lt (fun y Kin Kout=>exec D rows Γ fuel c A (Hh kt ko E st) (Ay L (BO h y)) (Re (Hh kt ko E st) L h ts hs Kin Kout)) fuel y0 fun x=>Aj hs x fun i l =>
           K (CG ts i).1 (FA kt ko st (Ay (CG ts i).2 l))
       | none=>none
     | none=>none
   | _=>none
 | _,_,_,_,_,_=>none
def Fq {R:Type}(E:XE)(K:Nat->Aw->Option R)(r:R):Exit->St->Prop:=fun e s=>∃ x st', Gu e=some x/\Conv AM s (AH E st')/\K x st' = some r
omit [Mo] in
theorem Cu {e:Exit}(h:Gu e=some 0):e=.normal:=by cases e <;> simp [Gu] at h <;> rfl
theorem Fx {R:Type}{E:XE}{kt ko:List Nat}{st:Aw}{hs:List (List Al)}{ts:List (Nat × Hb)}{y:Dq hs}{x:Nat}{st':Aw}(h:Fo (Hh kt ko E st) hs 0 ts x st' = some y)(f:Nat->List HV->Option R){r:R}(hf:Aj hs y f=some r) :
   ∃ k l,(CG ts k).1=x/\f k l=some r/\Conv AM (AH (Hh kt ko E st) st') (AH E (FA kt ko st (Ay (CG ts k).2 l))):=by
 obtain ⟨k,l,h1,h2,h3⟩:=FZ (ts0:=ts) ts 0 (fun j=>by simp) h
 refine ⟨k,l,h1,?_,?_⟩
 · rw [<- Ni hs k l y f h3]; exact hf
 · rw [RC]; exact Conv.Bh h2
theorem Qe (hg : Good P D) (hm:P.follows .mixedOrders=true) {rows:Nat->Option Row} {Γ : List (Ar P)} {fuel:Nat}:∀ (c:Code) {R:Type} (an:An) (E:XE) (st:Aw) (K:Nat->Aw->Option R) (r:R),exec D rows Γ fuel c an E st K=some r ->
   Tr P AM c (AH E st) (Fq E K r):=by
 intro c
 induction c with
 | skip=>intro R an E st K r h; exact Tr.skip ⟨0,st,rfl,Conv.refl _,by simpa only [exec] using h⟩
 | ret=>intro R an E st K r h; exact Tr.ret ⟨1,st,rfl,Conv.refl _,by simpa only [exec] using h⟩
 | exit id=>intro R an E st K r h; exact Tr.exit ⟨id+2,st,rfl,Conv.refl _,by simpa only [exec] using h⟩
 | region id ops draw =>
   intro R an E st K r h
   simp only [exec] at h
   cases draw with
   | false =>
     simp only [cond_false] at h
     exact Tr.region (Dm hg ops.toList 0 st (K 0) h fun st' h'=>⟨0,st', rfl,Conv.refl _,h'⟩)
   | true =>
     simp only [cond_true] at h
     obtain ⟨hp,h⟩:=EZ h
     have hp:=Zb hp
     split at h
     · rename_i st1 hf
       refine Tr.conv (Cd hf) ?_
       have p0:Path P ops E (AH E st1).t (AH E st1).s 0 st1 []:=by
         refine ⟨rfl,?_,rfl,fun i hi=>by omega⟩
         funext d
         unfold tL
         cases MK ops d with
         | none=>rfl
         | some q =>
           have:Bg 0 q=false:=by rw [<- Bool.not_eq_true,Cx]; omega
           simp only [this,cond_false]
       obtain ⟨st', tr', h1,h2,h3⟩:=Iu hg hp ops.toList 0 st1 [] (K 0) (by simp) (Nat.zero_le _) p0 h
       exact h1.done hp h2 hm ⟨0,st', rfl,Conv.refl _,h3⟩
     · cases h
 | seq a b iha ihb =>
   intro R an E st K r h
   have plain:∀ (A B:An),exec D rows Γ fuel a A E st (fun e st'=>cond (Nat.beq e 0) (exec D rows Γ fuel b B E st' K) (K e st'))=some r->Tr P AM (.seq a b) (AH E st) (Fq E K r):=by
     intro A B h
     refine Tr.seq ((iha A E st _ r h).mono ?_)
     rintro e s ⟨x,st', h1,h2,h3⟩
     replace h3:(cond (Nat.beq x 0) (exec D rows Γ fuel b B E st' K) (K x st'))=some r:=h3
     cases hx:Nat.beq x 0 with
     | true =>
       rw [hx] at h3
       have hx0:=Nat.eq_of_beq_eq_true hx
       subst hx0
       obtain rfl:=Cu h1
       exact Tr.conv h2 (ihb B E st' K r h3)
     | false =>
       rw [hx] at h3
       have hne:e ≠ .normal:=by rintro rfl; cases h1; cases hx
       have:UJ P AM b (Fq E K r) e s=Fq E K r e s:=by cases e <;> first | rfl | exact absurd rfl hne
       rw [this]; exact ⟨x,st', h1,h2,h3⟩
   simp only [exec] at h
   generalize an.at E st=an at h
   cases an with
   | jn kt ko ts hs A B =>
     obtain ⟨y,hy,h⟩:=DH h
     have ha:=iha A (Hh kt ko E st) (TV kt ko st) _ y hy
     rw [KV] at ha
     refine Tr.seq (ha.mono ?_)
     rintro e s ⟨x,st', h1,h2,h3⟩
     obtain ⟨k,l,h4,h5,h6⟩:=Fx h3 _ h
     cases hx:Nat.beq (CG ts k).1 0 with
     | true =>
       rw [hx] at h5
       have hx0:=Nat.eq_of_beq_eq_true hx
       rw [h4] at hx0
       subst hx0
       obtain rfl:=Cu h1
       exact Tr.conv (h2.trans h6) (ihb B E _ K r h5)
     | false =>
       rw [hx] at h5
       have hne:e ≠ .normal:=by rintro rfl; cases h1; rw [h4] at hx; cases hx
       have:UJ P AM b (Fq E K r) e s=Fq E K r e s:=by cases e <;> first | rfl | exact absurd rfl hne
       rw [this]; exact ⟨x,_,h1,h2.trans h6,by rw [<- h4]; exact h5⟩
   | nd=>exact plain _ _ h
   | sq A B=>exact plain _ _ h
   | lp=>exact plain _ _ h
   | lc=>exact plain _ _ h
   | mk=>exact plain _ _ h
   | al=>exact plain _ _ h
   | am=>exact plain _ _ h
   | fr=>exact plain _ _ h
 | cond c a b iha ihb =>
   intro R an E st K r h
   simp only [exec] at h
   split at h
   · rename_i q hq
     refine Tr.cond q (by rw [Ja,hq]; rfl) (fun e=>?_) (fun e=>?_)
     · subst e; exact iha _ E st K r h
     · subst e; exact ihb _ E st K r h
   · cases h
 | block id c ih =>
   intro R an E st K r h
   simp only [exec] at h
   refine Tr.block ((ih an E st _ r h).mono ?_)
   rintro e s ⟨x,st', h1,h2,h3⟩
   replace h3:(cond (Nat.beq x (id+2)) (K 0 st') (K x st'))=some r:=h3
   cases hx:Nat.beq x (id+2) with
   | true =>
     rw [hx] at h3
     have hx':=Nat.eq_of_beq_eq_true hx
     subst hx'
     cases e with
     | exit id' =>
       simp only [Gu,Option.some.injEq] at h1
       have:id' = id:=by omega
       subst this
       show if id' = id' then _ else _
       rw [if_pos rfl]; exact ⟨0,st', rfl,h2,h3⟩
     | _=>simp [Gu] at h1
   | false =>
     rw [hx] at h3
     cases e with
     | exit id' =>
       simp only [Gu,Option.some.injEq] at h1
       have:id' ≠ id:=by rintro rfl; rw [<- h1] at hx; simp at hx
       show if id' = id then _ else _
       rw [if_neg this]; exact ⟨x,st', by simp [Gu,h1],h2,h3⟩
     | _=>exact ⟨x,st', h1,h2,h3⟩
 | loop c ih =>
   intro R an E st K r h
   simp only [exec] at h
   generalize an.at E st=an at h
   cases an with
   | lp kt ko L hh ts hs A =>
     simp only at h
     split at h
     · rename_i l0 hl0
       split at h
       · rename_i y0 hy0
         obtain ⟨z,hz,h⟩:=DH h
         have c0:=Conv.Bh hl0
         rw [KV,<- Cp hh l0 y0 hy0] at c0
         refine Tr.conv c0 ?_
         refine Tr.loop (fun n s=>∃ y,Conv AM s (AH (Hh kt ko E st) (Ay L (BO hh y)))/\AX (fun y=>exec D rows Γ fuel c A (Hh kt ko E st) (Ay L (BO hh y)) (Rg (Hh kt ko E st) L hh ts hs)) n y=some z) fuel ⟨y0,Conv.refl _,hz⟩ ?_
         rintro n s ⟨y,hcv,hn⟩
         cases n with
         | zero=>cases hn
         | succ n =>
           simp only [AX] at hn
           obtain ⟨q,hq,hn⟩:=DH hn
           refine Tr.conv hcv ((ih A _ _ _ q hq).mono ?_)
           rintro e s' ⟨x,st', h1,h2,h3⟩
           unfold Rg at h3
           cases hx:Nat.beq x 0 with
           | true =>
             rw [hx] at h3
             simp only [cond_true] at h3
             have hx0:=Nat.eq_of_beq_eq_true hx
             subst hx0
             obtain rfl:=Cu h1
             split at h3
             · rename_i l1 hl1
               split at h3
               · rename_i y1 hy1
                 cases h3
                 refine ⟨n,Nat.lt_succ_self n,y1,h2.trans ?_,hn⟩
                 rw [Cp hh l1 y1 hy1]; exact Conv.Bh hl1
               · cases h3
             · cases h3
           | false =>
             rw [hx] at h3
             simp only [cond_false] at h3
             split at h3
             · rename_i y1 hy1
               cases h3
               simp only [Aq] at hn
               cases hn
               obtain ⟨k,l,h4,h5,h6⟩:=Fx hy1 _ h
               have hne:e ≠ .normal:=by rintro rfl; cases h1; cases hx
               have:Vg (fun n s=>∃ y,Conv AM s (AH (Hh kt ko E st) (Ay L (BO hh y)))/\AX (fun y=>exec D rows Γ fuel c A (Hh kt ko E st) (Ay L (BO hh y)) (Rg (Hh kt ko E st) L hh ts hs)) n y=some z) (n+1) (Fq E K r) e s' = Fq E K r e s':=by
                 cases e <;> first | rfl | exact absurd rfl hne
               rw [this]
               exact ⟨x,_,h1,h2.trans h6,by rw [<- h4]; exact h5⟩
             · cases h3
       · cases h
     · cases h
   | lc kt ko L hh ts hs A =>
     simp only at h
     split at h
     · rename_i l0 hl0
       split at h
       · rename_i y0 hy0
         have c0:=Conv.Bh hl0
         rw [KV,<- Cp hh l0 y0 hy0] at c0
         refine Tr.conv c0 ?_
         generalize hK:(fun x=>Aj hs x fun i l=>K (CG ts i).1 (FA kt ko st (Ay (CG ts i).2 l)))=KK at h
         refine Tr.loop (fun n s=>∃ y,Conv AM s (AH (Hh kt ko E st) (Ay L (BO hh y)))/\Lt (fun y Kin Kout=>exec D rows Γ fuel c A (Hh kt ko E st) (Ay L (BO hh y)) (Re (Hh kt ko E st) L hh ts hs Kin Kout)) n y KK=some r) fuel ⟨y0,Conv.refl _,h⟩ ?_
         rintro n s ⟨y,hcv,hn⟩
         cases n with
         | zero=>cases hn
         | succ n =>
           simp only [Lt] at hn
           refine Tr.conv hcv ((ih A _ _ _ r hn).mono ?_)
           rintro e s' ⟨x,st', h1,h2,h3⟩
           unfold Re at h3
           cases hx:Nat.beq x 0 with
           | true =>
             rw [hx] at h3
             simp only [cond_true] at h3
             have hx0:=Nat.eq_of_beq_eq_true hx
             subst hx0
             obtain rfl:=Cu h1
             split at h3
             · rename_i l1 hl1
               split at h3
               · rename_i y1 hy1
                 refine ⟨n,Nat.lt_succ_self n,y1,h2.trans ?_,h3⟩
                 rw [Cp hh l1 y1 hy1]; exact Conv.Bh hl1
               · cases h3
             · cases h3
           | false =>
             rw [hx] at h3
             simp only [cond_false] at h3
             split at h3
             · rename_i y1 hy1
               rw [<- hK] at h3
               obtain ⟨k,l,h4,h5,h6⟩:=Fx hy1 _ h3
               have hne:e ≠ .normal:=by rintro rfl; cases h1; cases hx
               have:Vg (fun n s=>∃ y,Conv AM s (AH (Hh kt ko E st) (Ay L (BO hh y)))/\Lt (fun y Kin Kout=>exec D rows Γ fuel c A (Hh kt ko E st) (Ay L (BO hh y)) (Re (Hh kt ko E st) L hh ts hs Kin Kout)) n y KK=some r) (n+1) (Fq E K r) e s' = Fq E K r e s':=by
                 cases e <;> first | rfl | exact absurd rfl hne
               rw [this]
               exact ⟨x,_,h1,h2.trans h6,by rw [<- h4]; exact h5⟩
             · cases h3
       · cases h
     · cases h
   | nd=>cases h
   | sq A B=>cases h
   | jn=>cases h
   | mk=>cases h
   | al=>cases h
   | am=>cases h
   | fr=>cases h
 | _=>intro R an E st K r h; simp [exec] at h
end Go.Proofs.YtobfoiomjfdjjaaDoor.Mc
namespace Go.Proofs.YtobfoiomjfdjjaaDoor.Mc
open Go.RowKit
variable [Mo]
set_option linter.constructorNameAsVariable false
variable {P:Program}{D:Ah}
theorem Tr.post {G:BA}{c:Code}{st:St}{Q Q2:Exit->St->Prop}(h:Tr P G c st Q)(hq:∀ e s,Q e s->∃ s2,Conv G s s2/\Q2 e s2):Tr P G c st Q2:=by
 intro B F loc a w hR hd
 refine wp_mono (h B F loc a w hR hd) ?_
 rintro e a' w' ⟨h1,F', loc', st', h2,h3⟩
 obtain ⟨s2,hc,hq2⟩:=hq e st' h3
 obtain ⟨F2,loc2,hR2⟩:=hc B F' loc' a'.tmps w' h2
 exact ⟨h1,F2,loc2,s2,hR2,hq2⟩
def SP (D:Ah)(E:XE)(st:Aw):ResultVar->Option X
 | .tmp t=>some (Te E st t)
 | .cell a t=>match RR D (gE E st) t (Te E st a) with | .ok v _=>some v | _=>none
def Ri (D:Ah)(E:XE)(st:Aw):List ResultVar->Option (List X)
 | []=>some []
 | r :: rs=>match SP D E st r,Ri D E st rs with
   | some x,some xs=>some (x :: xs)
   | _,_=>none
def aZ:List X->X
 | [x]=>x
 | xs=>.tp xs
def Ym (D:Ah)(E:XE)(st:Aw)(rs:List ResultVar):Option X:=match Ri D E st rs with | some xs=>some (aZ xs) | none=>none
omit [Mo] in
theorem Pz {E:XE} {st:Aw} {r:ResultVar} {x:X} (h:SP D E st r=some x):Tz D (AH E st) r=some x.enc:=by
 cases r with
 | tmp t=>simp only [SP] at h; cases h; show some ((AH E st).t t)=_; rw [JX]
 | cell a t =>
   simp only [SP] at h
   have law:=KM (D:=D) (Nj E st) (e:=fun o=>match o with | .tmp i=>(AH E st).t i | _=>.dead) (t:=t) (op:=.tmp a) (p:=Te E st a) (JX E st a)
   split at h
   · rename_i v u hx
     cases h
     rw [hx] at law
     exact law.2
   · cases h
omit [Mo] in
theorem Js {E:XE} {st:Aw}:∀ {rs:List ResultVar} {xs:List X},Ri D E st rs=some xs->Eb D (AH E st) rs=some (xs.map X.enc)
 | [],xs,h=>by cases h; rfl
 | r :: rs,xs,h=>by
   simp only [Ri] at h
   split at h
   · rename_i x xs' h1 h2
     cases h
     simp only [Eb,Pz h1,Js h2,List.map_cons]
   · cases h
omit [Mo] in
theorem Si {E:XE} {st:Aw} {rs:List ResultVar} {x:X} (h:Ym D E st rs=some x):Su D (AH E st) rs=some x.enc:=by
 unfold Ym at h
 split at h
 · rename_i xs hxs
   cases h
   unfold Su
   rw [Js hxs]
   cases xs with
   | nil=>rfl
   | cons x xs =>
     cases xs with
     | nil=>rfl
     | cons y ys=>simp [aZ,X.enc,Aa]
 · cases h
def TX:Nat->List X->XT
 | _,[]=>[]
 | i,x :: xs=>(i,x) :: TX (i+1) xs
def Tu (fn:Func)(A:AZ)(kp:List Nat)(q:List X × XS):XE:=⟨[],CQ kp q.2,q.1.length+(fn.ntmps - q.1.length),A.o.map (·.1)⟩
def Yw (kp:List Nat)(q:List X × XS):Aw:=⟨TX 0 q.1,FD kp q.2⟩
def Vz (D:Ah)(E:XE)(rs:List ResultVar)(hs:List (List Al))(R:List AY)(e:Nat)(st:Aw):Option (Dq hs) :=
 cond (Nat.ble e 1) (match Ym D E st rs with
   | some x=>Fo ⟨[],E.s,1,E.a⟩ hs 0 (R.map fun r=>(0,⟨[(0,r.v)],r.o⟩)) 0 ⟨[(0,x)],st.s⟩
   | none=>none) none
omit [Mo] in
theorem SB:∀ (xs:List X) (i n:Nat),lk (TX i xs) n=if i<=n then xs[n - i]? else none
 | [],i,n=>by simp [TX,lk]
 | x :: xs,i,n=>by
   simp only [TX,lk]
   cases hb:Nat.beq i n with
   | true=>have:=Nat.eq_of_beq_eq_true hb; subst this; simp
   | false =>
     have hne:i ≠ n:=by rintro rfl; simp at hb
     rw [cond_false,SB xs (i+1) n]
     by_cases h:i<=n
     · rw [if_pos (by omega),if_pos h]
       have:n - i=(n - (i+1))+1:=by omega
       rw [this,List.getElem?_cons_succ]
     · rw [if_neg (by omega),if_neg h]
def Tp (hs:List (List Al))(y:Dq hs):Nat × List HV:=Aj hs y fun i l=>(i,l)
omit [Mo] in
theorem GH {β:Type}:∀ (hs:List (List Al)) (y:Dq hs) (f:Nat->List HV->β),Aj hs y f=f (Tp hs y).1 (Tp hs y).2
 | [],y,_=>y.elim
 | [_],_,_=>rfl
 | _ :: _ :: _,.inl _,_=>rfl
 | _ :: g :: t,.inr z,f=>by
   have h1:=GH (g :: t) z fun i l=>f (i+1) l
   have h2:=GH (g :: t) z fun i l=>(i+1,l)
   show Aj (g :: t) z (fun i l=>f (i+1) l)=f (Aj (g :: t) z fun i l=>(i+1,l)).1 (Aj (g :: t) z fun i l=>(i+1,l)).2
   rw [h1,h2]
theorem ZO (hg:Good P D) (hm:P.follows .mixedOrders=true) {f:FuncId} {fn:Func} {c:Code} (WK:P.funcs[f]? = some fn) (hb:fn.body=some c) {rows:Nat->Option Row} {Γ : List (Ar P)} {fuel:Nat} {A:AZ} {h:List Al} {kp:List Nat} {R:List AY} (an:An) (y:Tup h) {r:Dq (R.map (·.h))}
   (he:exec D rows Γ fuel c an (Tu fn A kp (Dz A (BO h y))) (Yw kp (Dz A (BO h y))) (Vz D (Tu fn A kp (Dz A (BO h y))) fn.results.toList (R.map (·.h)) R)=some r) :
   Aj (R.map (·.h)) r fun i l=>LL P f (Dz A (BO h y)).1 (Dz A (BO h y)).2 (Fs (DV R i) l).1 ((Fs (DV R i) l).2 ++ CQ kp (Dz A (BO h y)).2):=by
 generalize hq:Dz A (BO h y)=q at he ⊢
 have hkeys:q.2.map (·.1)=A.o.map (·.1):=by
   rw [<- hq]; unfold Dz; exact ET _ _
 rw [GH]
 generalize hk:Tp _ r=kl
 obtain ⟨i,l⟩:=kl
 have tr:=Qe hg hm (rows:=rows) (Γ := Γ) (fuel:=fuel) c an _ _ _ r he
 have start:Conv AM (Gc (q.1.map X.enc) (encS q.2) fn.ntmps (A.o.map (·.1))) (AH (Tu fn A kp q) (Yw kp q)):=by
   intro B F loc tmps w hR
   refine ⟨F,loc,⟨?_,fun j=>?_,?_,hR.a⟩⟩
   · have h1:AK AM B w F loc (encS q.2):=hR.s
     have h2:encS (FD kp q.2 ++ CQ kp q.2)=encS q.2:=OR fun n=>by
       rw [AR,HJ,Fa]
       by_cases hn:n ∈ kp
       · simp [hn]
       · simp only [if_neg hn]; cases lk q.2 n <;> rfl
     show AK AM B w F loc (encS (FD kp q.2 ++ CQ kp q.2))
     rw [h2]; exact h1
   · have h1:=hR.t j
     show AF w F loc (CN (TX 0 q.1 ++ []) j) _
     rw [List.append_nil,Ee,SB,if_pos (Nat.zero_le _),Nat.sub_zero]
     have h2:AF w F loc (((q.1.map X.enc)[j]?).getD vU) (tmps.getD j undef):=h1
     rw [List.getElem?_map] at h2
     cases hx:q.1[j]? with
     | none=>exact .dead _
     | some x=>rw [hx] at h2; exact h2
   · have:=hR.n
     show tmps.size=_
     rw [this]; simp [Gc,Tu]; rfl
 have han:∀ n x,encS q.2 n=some x->n ∈ A.o.map (·.1):=by
   intro n x hx
   rw [<- hkeys]
   unfold encS at hx
   cases hl:lk q.2 n with
   | none=>rw [hl] at hx; cases hx
   | some z=>exact List.mem_map.2 ⟨_,CP hl,rfl⟩
 have ct := CT.bQ hg WK hb (vs:=q.1.map X.enc) (s:=encS q.2) (an:=A.o.map (·.1)) (Q:=fun r' s'=>∃ st', ∃ x,r' = x.enc/\s' = (AH (Tu fn A kp q) st').s/\Fo ⟨[],(Tu fn A kp q).s,1,(Tu fn A kp q).a⟩ (R.map (·.h)) 0 (R.map fun r=>(0,⟨[(0,r.v)],r.o⟩)) 0 ⟨[(0,x)],st'.s⟩=some r) han
   (Tr.conv start (tr.post fun e s hp=>by
     obtain ⟨x,st', h1,h2,h3⟩:=hp
     refine ⟨_,h2,?_⟩
     unfold Vz at h3
     cases hx:Nat.ble x 1 with
     | false=>rw [hx] at h3; cases h3
     | true =>
       rw [hx] at h3
       simp only [cond_true] at h3
       split at h3
       · rename_i z hz
         have:=Si hz
         have hx1:=Nat.le_of_ble_eq_true hx
         cases e with
         | normal=>exact ⟨_,this,st', z,rfl,rfl,h3⟩
         | ret=>exact ⟨_,this,st', z,rfl,rfl,h3⟩
         | exit id=>simp only [Gu,Option.some.injEq] at h1; omega
         | _=>simp [Gu] at h1
       · cases h3))
 intro F loc w args hn hS hA
 refine (ct F loc w args hn hS hA).mono ?_
 rintro e w' ⟨v,F', loc', r', s', rfl,hS', hv,st', x,rfl,rfl,hleaf⟩
 obtain ⟨k,l', h4,h5,h6⟩:=FZ (ts0:=R.map fun r=>(0,⟨[(0,r.v)],r.o⟩)) _ 0 (fun j=>by simp) hleaf
 have hkl:(k,l')=(i,l):=by rw [<- hk]; exact (Ni _ k l' r (fun i l=>(i,l)) h6).symm
 cases hkl
 have hend:CG (R.map fun r=>(0,⟨[(0,r.v)],r.o⟩)) i=(0,⟨[(0,(DV R i).v)],(DV R i).o⟩)\/CG (R.map fun r=>(0,⟨[(0,r.v)],r.o⟩)) i=(0,⟨[],[]⟩):=by
   unfold CG DV
   rw [List.getElem?_map]
   cases R[i]? with
   | none=>exact .inr rfl
   | some z=>exact .inl rfl
 have hmk:(R.map (·.h))[i]? ≠ none:=by
   have:∀ (hs:List (List Al)) (i:Nat) (l:List HV) (y:Dq hs),Fk hs i l=some y->hs[i]? ≠ none:=by
     intro hs
     induction hs with
     | nil=>intro i l y; exact y.elim
     | cons a t ih =>
       intro i l y h
       cases i with
       | zero=>simp
       | succ i =>
         cases t with
         | nil=>simp [Fk] at h
         | cons b t =>
           simp only [Fk] at h
           split at h
           · rename_i z hz; simpa using ih i l z hz
           · cases h
   exact this _ _ _ _ h6
 have hri:R[i]? ≠ none:=by rw [List.getElem?_map] at hmk; intro h; rw [h] at hmk; exact hmk rfl
 have hend:CG (R.map fun r=>(0,(⟨[(0,r.v)],r.o⟩:Hb))) i=(0,⟨[(0,(DV R i).v)],(DV R i).o⟩):=by
   unfold CG DV
   rw [List.getElem?_map]
   cases hz:R[i]? with
   | none=>exact absurd hz hri
   | some z=>rfl
 rw [hend] at h5
 have cv:=Conv.Bh h5
 have hR:Rel AM (DT loc w F hn) F' loc' (AH ⟨[],(Tu fn A kp q).s,1,(Tu fn A kp q).a⟩ ⟨[(0,x)],st'.s⟩) #[v] w':=by
   refine ⟨hS', fun j=>?_,rfl,fun o l hl=>?_⟩
   · show AF w' F' loc' (CN [(0,x)] j) _
     cases j with
     | zero=>exact hv
     | succ j=>exact .dead _
   · obtain ⟨obj,hobj⟩:=hS.Fp o l hl
     exact han o obj hobj
 obtain ⟨F2,loc2,hR2⟩:=cv _ _ _ _ _ hR
 refine ⟨v,F2,loc2,_,_,rfl,hR2.s,hR2.t 0,?_,?_⟩
 · show CN ((Ay ⟨[(0,(DV R i).v)],(DV R i).o⟩ l).t ++ []) 0=(BV (DV R i).v l).1.enc
   simp [Ay,Lh,CN,lk]
 · show encS ((Ay ⟨[(0,(DV R i).v)],(DV R i).o⟩ l).s ++ CQ kp q.2)=encS ((Dg (DV R i).o (BV (DV R i).v l).2).1 ++ CQ kp q.2)
   simp [Ay,Lh]
end Go.Proofs.YtobfoiomjfdjjaaDoor.Mc
namespace Go.Proofs.YtobfoiomjfdjjaaDoor.Mc
open Go.RowKit
variable [Mo]
variable {P:Program}{W:World}{H:Type}{enc:TypeId × Value->H}{base:Nat}{sp:Nat->Bool}{held:Bool}
omit [Mo] in
theorem NQ {α:Type}{c:Bool}{a:Option α}{b:α}(h:cond c a none=some b):c=true/\a=some b:=by
 cases c
 · cases h
 · exact ⟨rfl,h⟩
def Row.cat:Row->Row->Row
 | .nil,s=>s
 | .int k r,s=>.int k (r.cat s)
 | .bool r,s=>.bool (r.cat s)
 | .str r,s=>.str (r.cat s)
 | .sl e r,s=>.sl e (r.cat s)
def Dp:(r s:Row)->r.den->s.den->(r.cat s).den
 | .nil,_,_,y=>y
 | .int _ r,s,x,y=>JL (r.cat s) (Gk r x) (Dp r s (Gj r x) y)
 | .bool r,s,x,y=>JL (r.cat s) (Gk r x) (Dp r s (Gj r x) y)
 | .str r,s,x,y=>JL (r.cat s) (Gk r x) (Dp r s (Gj r x) y)
 | .sl _ r,s,x,y=>JL (r.cat s) (Gk r x) (Dp r s (Gj r x) y)
omit [Mo] in
theorem Jm:∀ (r s:Row) (x:r.den) (y:s.den),(r.cat s).en (Dp r s x y)=r.en x ++ s.en y
 | .nil,_,_,_=>rfl
 | .int _ r,s,x,y=>by simp only [Row.cat,Dp,Row.en,Ca,Bz,Jm r s,List.cons_append]
 | .bool r,s,x,y=>by simp only [Row.cat,Dp,Row.en,Ca,Bz,Jm r s,List.cons_append]
 | .str r,s,x,y=>by simp only [Row.cat,Dp,Row.en,Ca,Bz,Jm r s,List.cons_append]
 | .sl _ r,s,x,y=>by simp only [Row.cat,Dp,Row.en,Ca,Bz,Jm r s,List.cons_append]
def Row.gd:(r:Row)->r.den->Prop
 | .nil,_=>True
 | .int k r,x=>(Lit.int k (Gk r x)).wf=true/\r.gd (Gj r x)
 | .bool r,x=>r.gd (Gj r x)
 | .str r,x=>(Gk r x).size<=maxLen/\r.gd (Gj r x)
 | .sl e r,x=>((Gk r x).length<=maxLen/\∀ z ∈ Gk r x,e.gd z)/\r.gd (Gj r x)
def Row.Bo:(r:Row)->r.den->Nat
 | .nil,_=>0
 | .int _ r,x=>r.Bo (Gj r x)
 | .bool r,x=>r.Bo (Gj r x)
 | .str r,x=>(Gk r x).size+r.Bo (Gj r x)
 | .sl e r,x=>((Gk r x).map fun z=>e.Bo z+1).sum+r.Bo (Gj r x)
omit [Mo] in
theorem Gt:∀ (r s:Row) (x:r.den) (y:s.den),(r.cat s).Bo (Dp r s x y)=r.Bo x+s.Bo y
 | .nil,_,_,_=>by simp only [Row.cat,Dp,Row.Bo,Nat.zero_add]
 | .int _ r,s,x,y=>by simp only [Row.cat,Dp,Row.Bo,Bz,Gt r s]
 | .bool r,s,x,y=>by simp only [Row.cat,Dp,Row.Bo,Bz,Gt r s]
 | .str r,s,x,y=>by simp only [Row.cat,Dp,Row.Bo,Bz,Ca,Gt r s,Nat.add_assoc]
 | .sl e r,s,x,y=>by simp only [Row.cat,Dp,Row.Bo,Bz,Ca,Gt r s,Nat.add_assoc]
omit [Mo] in
theorem NM {α:Type}(f:α->Nat):∀ (xs:List α) (ns:List Nat),ns.length=xs.length->(∀ i (h:i < xs.length),f xs[i]+1<=ns.getD i 0)->(xs.map fun z=>f z+1).sum<=ns.sum
 | [],ns,_,_=>by simp
 | x :: xs,n :: ns,hl,h=>by
   have h0:=h 0 (by simp)
   have:=NM f xs ns (by simpa using hl) (fun i hi=>by have:=h (i+1) (by simpa using hi); simpa using this)
   simp only [List.getElem_cons_zero,List.getD_cons_zero] at h0
   simp only [List.map_cons,List.sum_cons]
   omega
 | _ :: _,[],hl,_=>by simp at hl
omit [Mo] in
theorem OJ:∀ (ns:List Nat) (i:Nat),i < ns.length->(ns.drop i).sum=ns.getD i 0+(ns.drop (i+1)).sum
 | [],_,h=>by simp at h
 | n :: ns,0,_=>by simp
 | n :: ns,i+1,h=>by
   have:=OJ ns i (by simpa using h)
   simpa using this
omit [Mo] in
theorem Ke:∀ (r s:Row) (x:r.den) (y:s.den),r.gd x->s.gd y->(r.cat s).gd (Dp r s x y)
 | .nil,_,_,_,_,k=>k
 | .int _ r,s,x,y,h,k=>by simp only [Row.cat,Dp,Row.gd,Ca,Bz]; exact ⟨h.1,Ke r s _ _ h.2 k⟩
 | .bool r,s,x,y,h,k=>by simp only [Row.cat,Dp,Row.gd,Bz]; exact Ke r s _ _ h k
 | .str r,s,x,y,h,k=>by simp only [Row.cat,Dp,Row.gd,Ca,Bz]; exact ⟨h.1,Ke r s _ _ h.2 k⟩
 | .sl _ r,s,x,y,h,k=>by simp only [Row.cat,Dp,Row.gd,Ca,Bz]; exact ⟨h.1,Ke r s _ _ h.2 k⟩
def PU (P:Program)(f:TypeId->Option Row)(n:Nat):Nat->List Field->Option Row
 | off,[]=>cond (Nat.beq off n) (some .nil) none
 | off,fl :: fs=>cond (Nat.beq fl.offset off) (match f fl.type,PU P f n (off+P.cellsOf fl.type) fs with
   | some r,some s=>cond (Nat.beq r.len (P.cellsOf fl.type)) (some (r.cat s)) none
   | _,_=>none) none
def SR (P:Program):Nat->TypeId->Option Row
 | 0,_=>none
 | n+1,t=>match P.underlying t with
   | some (.int k)=>some (.int k .nil)
   | some .bool=>some (.bool .nil)
   | some .string=>some (.str .nil)
   | some (.slice e)=>cond (Nat.blt 0 (P.cellsOf e)) (match SR P n e with | some r=>some (.sl r .nil) | none=>none) none
   | some (.struct fs)=>PU P (SR P n) (P.cellsOf t) 0 fs.toList
   | _=>none
instance rowInh:(r:Row)->Inhabited r.den:=fun r=>⟨r.zero⟩
omit [Mo] in
theorem IW {f:TypeId->Option Row} {n:Nat} {cs:List Value} (hl:cs.length=n) {fs:Array Field} {ns:List Nat} (hns:ns.length=fs.size)
   (hf:∀ (i:Nat) (fl:Field) (r:Row),fs[i]? = some fl->f fl.type=some r->∃ a:r.den,BM W ((cs.drop fl.offset).take (P.cellsOf fl.type)) (r.en a)/\r.gd a/\r.Bo a+1<=ns.getD i 0) :
   ∀ (l:List Field) (i off:Nat) (r:Row),(∀ j fl,l[j]? = some fl->fs[i+j]? = some fl)->PU P f n off l=some r->∃ a:r.den,BM W ((cs.drop off).take (n - off)) (r.en a)/\r.gd a/\off<=n/\r.Bo a<=(ns.drop i).sum
 | [],i,off,r,_,h=>by
   unfold PU at h
   obtain ⟨h1,h2⟩:=AO h
   cases h2
   have:=Nat.eq_of_beq_eq_true h1
   subst this
   exact ⟨(),by rw [Nat.sub_self,List.take_zero]; exact ⟨rfl,fun j y hj=>by simp [Row.en] at hj⟩,trivial,Nat.le_refl _,Nat.zero_le _⟩
 | fl :: l,i,off,r,hi,h=>by
   unfold PU at h
   obtain ⟨h1,h2⟩:=NQ h
   have ho:=Nat.eq_of_beq_eq_true h1
   split at h2
   · rename_i r1 s1 hr hs
     obtain ⟨h3,h4⟩:=AO h2
     cases h4
     have hlen:=Nat.eq_of_beq_eq_true h3
     obtain ⟨a,ha,ga,ka⟩:=hf i fl r1 (hi 0 fl rfl) hr
     obtain ⟨b,hb,gb,hle,kb⟩:=IW hl hns hf l (i+1) _ s1 (fun j fl' hj=>by have:=hi (j+1) fl' (by simpa using hj); rwa [Nat.add_assoc,Nat.add_comm 1]) hs
     have hi':i < ns.length:=by rw [hns]; exact (Array.getElem?_eq_some_iff.1 (hi 0 fl rfl)).1
     refine ⟨Dp r1 s1 a b,?_,Ke _ _ _ _ ga gb,by omega,by rw [Gt,OJ ns i hi']; omega⟩
     rw [Jm]
     rw [ho] at ha
     have:=BM.cat ha hb (by rw [Row.CS,hlen])
     rwa [show P.cellsOf fl.type+(n - (off+P.cellsOf fl.type))=n - off by omega] at this
   · cases h2
omit [Mo] in
theorem ES:∀ (n:Nat) (t:TypeId) (r:Row),SR P n t=some r->Ie P W enc base sp held t r.en (fun a m=>r.gd a/\r.Bo a+1<=m)
 | 0,_,_,h=>by cases h
 | n + 1,t,r,h=>by
   unfold SR at h
   split at h
   · rename_i k hu
     cases h
     intro fuel cs x hx
     obtain ⟨m,hc,hw⟩:=MQ hu fuel cs x hx
     exact ⟨m,hc,⟨hw,trivial⟩,Gx _⟩
   · rename_i hu
     cases h
     intro fuel cs x hx
     obtain ⟨m,hc,hw⟩:=Jp hu fuel cs x hx
     exact ⟨m,hc,trivial,Gx _⟩
   · rename_i hu
     cases h
     intro fuel cs x hx
     obtain ⟨m,hc,hw,hk⟩:=Gl hu fuel cs x hx
     exact ⟨m,hc,⟨hw,trivial⟩,hk⟩
   · rename_i e hu
     obtain ⟨h1,h2⟩:=NQ h
     split at h2
     · rename_i q hq
       cases h2
       have hp:0 < P.cellsOf e:=by simpa [Nat.blt_eq] using h1
       intro fuel cs x hx
       obtain ⟨m,hc,hw,ns,h1,h2,h3⟩:=Ig hu hp (ES n e q hq) fuel cs x hx
       exact ⟨m,hc,⟨⟨hw,fun z hz=>by obtain ⟨i,hi,rfl⟩:=List.getElem_of_mem hz; exact (h3 i hi).1⟩,trivial⟩,Nat.le_trans (Nat.succ_le_succ (NM q.Bo m ns h1 fun i hi=>(h3 i hi).2)) h2⟩
     · cases h2
   · rename_i fs hu
     intro fuel cs x hx
     obtain ⟨hl,ns,h1,h2,hf⟩:=OP hu hx
     obtain ⟨a,ha,ga,_,ka⟩:=IW hl h1 (fun i fl q hi hq=>hf i fl hi (ES n fl.type q hq)) fs.toList 0 0 r (fun j fl hj=>by simpa using hj) h
     rw [Nat.sub_zero] at ha
     exact ⟨a,ha.whole hl,ga,by rw [List.drop_zero] at ka; omega⟩
   · cases h
inductive Gd where | int (k:IntKind) | bool | str | sl (r:Row)
def Gd.ty:Gd->Al | .int _=>.ti | .bool=>.tb | .str=>.ts | .sl r=>.tl r
def Gd.ok:(g:Gd)->g.ty.den->Prop
 | .int k,n=>(Lit.int k n).wf=true
 | .bool,_=>True
 | .str,(s:ByteArray)=>s.size<=maxLen
 | .sl r,(xs:List r.den)=>xs.length<=maxLen/\∀ z ∈ xs,r.gd z
def Gd.Bo:(g:Gd)->g.ty.den->Nat
 | .int _,_=>0
 | .bool,_=>0
 | .str,(s:ByteArray)=>s.size
 | .sl r,(xs:List r.den)=>(xs.map fun z=>r.Bo z+1).sum
def ZL:(gs:List Gd)->Tup (gs.map Gd.ty)->Nat
 | [],_=>0
 | [g],x=>g.Bo x
 | g :: g' :: gs,x=>g.Bo x.1+ZL (g' :: gs) x.2
def aA:(gs:List Gd)->Tup (gs.map Gd.ty)->Prop
 | [],_=>True
 | [g],x=>g.ok x
 | g :: g' :: gs,x=>g.ok x.1/\aA (g' :: gs) x.2
def LY:Row->List Gd
 | .nil=>[]
 | .int k r=>.int k :: LY r
 | .bool r=>.bool :: LY r
 | .str r=>.str :: LY r
 | .sl e r=>.sl e :: LY r
def Fu:Row->List Sh
 | .nil=>[]
 | .int k r=>.i k :: Fu r
 | .bool r=>.b :: Fu r
 | .str r=>.s :: Fu r
 | .sl e r=>.fz .u e :: Fu r
def Ex:(r:Row)->r.den->List HV
 | .nil,_=>[]
 | .int _ r,x=>⟨.ti,Gk r x⟩ :: Ex r (Gj r x)
 | .bool r,x=>⟨.tb,Gk r x⟩ :: Ex r (Gj r x)
 | .str r,x=>⟨.ts,Gk r x⟩ :: Ex r (Gj r x)
 | .sl e r,x=>⟨.tl e,Gk r x⟩ :: Ex r (Gj r x)
omit [Mo] in
theorem FM:∀ (r:Row) (x:r.den) (l:List HV),Cr (Fu r) (Ex r x ++ l)=(r.cells x,l)
 | .nil,_,_=>rfl
 | .int _ r,x,l=>by simp only [Fu,Ex,List.cons_append,Cr,BV,FM r,Row.cells]; rfl
 | .bool r,x,l=>by simp only [Fu,Ex,List.cons_append,Cr,BV,FM r,Row.cells]; rfl
 | .str r,x,l=>by simp only [Fu,Ex,List.cons_append,Cr,BV,FM r,Row.cells]; rfl
 | .sl _ r,x,l=>by simp only [Fu,Ex,List.cons_append,Cr,BV,FM r,Row.cells]; rfl
inductive GZ:List Gd->List HV->Nat->Prop where
 | nil:GZ [] [] 0
 | cons (g:Gd) (v:g.ty.den) (gs:List Gd) (l:List HV) (m:Nat) (h:g.ok v) (hs:GZ gs l m):GZ (g :: gs) (⟨g.ty,v⟩ :: l) (g.Bo v+m)
omit [Mo] in
theorem GZ.append:∀ {gs gs':List Gd} {l l':List HV} {m m':Nat},GZ gs l m->GZ gs' l' m' -> GZ (gs ++ gs') (l ++ l') (m+m')
 | _,_,_,_,_,m', .nil,k=>by rw [Nat.zero_add]; exact k
 | _,_,_,_,_,m', .cons g v gs l m h hs,k=>by rw [Nat.add_assoc]; exact .cons g v _ _ _ h (hs.append k)
omit [Mo] in
theorem Ek:∀ (r:Row) (x:r.den),r.gd x->GZ (LY r) (Ex r x) (r.Bo x)
 | .nil,_,_=>.nil
 | .int k r,x,h=>by have:=GZ.cons (.int k) (Gk r x) _ _ _ h.1 (Ek r _ h.2); simp only [Gd.Bo,Nat.zero_add] at this; exact this
 | .bool r,x,h=>by have:=GZ.cons .bool (Gk r x) _ _ _ trivial (Ek r _ h); simp only [Gd.Bo,Nat.zero_add] at this; exact this
 | .str r,x,h=>.cons .str _ _ _ _ h.1 (Ek r _ h.2)
 | .sl e r,x,h=>.cons (.sl e) _ _ _ _ h.1 (Ek r _ h.2)
omit [Mo] in
theorem GZ.fq:∀ {gs:List Gd} {l:List HV} {m:Nat},GZ gs l m->∃ y:Tup (gs.map Gd.ty),BO (gs.map Gd.ty) y=l/\aA gs y/\ZL gs y=m
 | _,_,_,.nil=>⟨(),rfl,trivial,rfl⟩
 | _,_,_,.cons g v _ _ _ h .nil=>⟨v,rfl,h,rfl⟩
 | _,_,_,.cons g v _ _ _ h (.cons g' v' gs l m h' hs)=>by
   obtain ⟨y,hy,gy,ky⟩:=(GZ.cons g' v' gs l m h' hs).fq
   exact ⟨(v,y),by rw [<- hy]; rfl,⟨h,gy⟩,by rw [<- ky]; rfl⟩
def VZ (P:Program)(n:Nat)(t:TypeId):Option (Sh × List Gd) :=
 match P.underlying t with
 | some (.int k)=>some (.i k,[.int k])
 | some .bool=>some (.b,[.bool])
 | some .string=>some (.s,[.str])
 | some (.slice e)=>cond (Nat.blt 0 (P.cellsOf e)) (match SR P n e with | some r=>some (.fz .u r,[.sl r]) | none=>none) none
 | some (.struct _)=>match SR P n t with | some r=>some (.ag (Fu r),LY r) | none=>none
 | _=>none
omit [Mo] in
theorem JW {v:Value}{y:T}(hv:v.cells = #[v])(h:BM W v.cells.toList [y]):AF W (Ev W) HY (.t y) v:=by
 obtain ⟨u,hu,_,hrel⟩:=h.2 0 _ rfl
 rw [hv] at hu
 cases hu
 exact .t _ _ hrel
def Yy:TypeDesc->Bool
 | .int _=>true
 | .bool=>true
 | .string=>true
 | .slice _=>true
 | _=>false
omit [Mo] in
theorem Ms {r:Reach} {b0:Nat} {t:TypeId} {v:Value} {d:TypeDesc} (hval:Value.okWide P W r b0 t v) (hu:P.underlying t=some d) (hd:Yy d=true):v.cells = #[v]:=by
 unfold Value.okWide at hval
 rw [hu] at hval
 cases d <;> first
   | (cases hd; done)
   | (cases v with
     | agg cs=>exfalso; simp [Cell.okWide,Cell.ok,hu] at hval
     | _=>rfl)
omit [Mo] in
theorem Ny {n:Nat} {t:TypeId} {s:Sh} {gs:List Gd} (h:VZ P n t=some (s,gs)) {r:Reach} {b0:Nat} {v:Value} {d:DataW H} {ps:List MemPlace} (hval:Value.okWide P W r b0 t v) (hd:DataW.Trod enc P W base sp held t v d ps) :
   ∃ l m,GZ gs l m/\m+1<=CJ d/\∃ x,(∀ l', BV s (l ++ l')=(x,l'))/\AF W (Ev W) HY x.enc v:=by
 have hd':=hd
 obtain ⟨fuel,hf⟩:=hd
 unfold VZ at h
 split at h
 · rename_i k hu
   cases h
   obtain ⟨m,hc,hw⟩:=MQ hu fuel _ _ hf
   exact ⟨[⟨.ti,m⟩],_,.cons (.int k) m _ _ _ hw .nil,Gx _,.i k m,fun _=>rfl,JW (Ms hval hu rfl) hc⟩
 · rename_i hu
   cases h
   obtain ⟨m,hc,hw⟩:=Jp hu fuel _ _ hf
   exact ⟨[⟨.tb,m⟩],_,.cons .bool m _ _ _ trivial .nil,Gx _,.b m,fun _=>rfl,JW (Ms hval hu rfl) hc⟩
 · rename_i hu
   cases h
   obtain ⟨m,hc,hw,hk⟩:=Gl hu fuel _ _ hf
   exact ⟨[⟨.ts,m⟩],_,.cons .str m _ _ _ hw .nil,hk,.s m,fun _=>rfl,JW (Ms hval hu rfl) hc⟩
 · rename_i e hu
   obtain ⟨h1,h2⟩:=NQ h
   split at h2
   · rename_i q hq
     cases h2
     have hp:0 < P.cellsOf e:=by simpa [Nat.blt_eq] using h1
     obtain ⟨m,hc,hw,ns,k1,k2,k3⟩:=Ig hu hp (ES n e q hq) fuel _ _ hf
     exact ⟨[⟨.tl q,m⟩],_,.cons (.sl q) m _ _ _ ⟨hw,fun z hz=>by obtain ⟨i,hi,rfl⟩:=List.getElem_of_mem hz; exact (k3 i hi).1⟩ .nil,Nat.le_trans (Nat.succ_le_succ (NM q.Bo m ns k1 fun i hi=>(k3 i hi).2)) k2,.fz .u q m,fun _=>rfl,JW (Ms hval hu rfl) hc⟩
   · cases h2
 · rename_i fs hu
   split at h
   · rename_i q hq
     cases h
     obtain ⟨a,ha,ga,ka⟩:=Wx hu hval (ES n t q hq) hd'
     refine ⟨Ex q a,_,Ek q a ga,ka,.ag (q.cells a),fun l'=>by simp only [BV,FM],?_⟩
     rw [X.enc,Aa,Row.Br]
     exact ha
   · cases h
 · cases h
def Hu (P:Program)(n:Nat):List TypeId->Option (List Sh × List Gd)
 | []=>some ([],[])
 | t :: ts=>match VZ P n t,Hu P n ts with
   | some (s,g),some (ss,gs)=>some (s :: ss,g ++ gs)
   | _,_=>none
omit [Mo] in
theorem KP {n:Nat} {r:Reach} {b0:Nat}:∀ {ts:List TypeId} {ss:List Sh} {gs:List Gd} {vs:List Value} {ds:List (DataW H)} {ps:List MemPlace},Hu P n ts=some (ss,gs) ->
   (∀ (j:Nat) t v,ts[j]? = some t->vs[j]? = some v->Value.okWide P W r b0 t v)->DataW.TrodAll enc P W base sp held ts vs ds ps ->
   ∃ l m,GZ gs l m/\m<=Fj ds/\∃ xs,(∀ l', Cr ss (l ++ l')=(xs,l'))/\CF W (Ev W) HY (xs.map X.enc) vs
 | [],_,_,vs,ds,ps,h,_,hd=>by
   cases h
   cases vs <;> cases ds <;> simp [DataW.TrodAll] at hd
   exact ⟨[],0,.nil,Nat.zero_le _,[],fun _=>rfl,PQ⟩
 | t :: ts,ss,gs,vs,ds,ps,h,hval,hd=>by
   unfold Hu at h
   split at h
   · rename_i s g ss' gs' h1 h2
     cases h
     cases vs <;> cases ds <;> simp only [DataW.TrodAll] at hd
     all_goals first | exact hd.elim | skip
     rename_i v vs d ds
     obtain ⟨p,q,hp,hq,e⟩:=hd
     obtain ⟨l,m,hl,k1,x,hx,rx⟩:=Ny h1 (hval 0 t v rfl rfl) hp
     obtain ⟨l2,m2,hl2,k2,xs,hxs,rxs⟩:=KP h2 (fun j t' v' a b=>hval (j+1) t' v' (by simpa using a) (by simpa using b)) hq
     refine ⟨l ++ l2,m+m2,hl.append hl2,by simp only [Fj]; omega,x :: xs,fun l'=>?_,Li rx rxs⟩
     rw [List.append_assoc]
     simp only [Cr,hx,hxs]
   · cases h
theorem Et (hG:GN W){n:Nat}{f:FuncId}{ts:List TypeId}{ss:List Sh}{gs:List Gd}(ha:Hu P n ts=some (ss,gs)){ds:List (DataW H)}
   (law:∀ y:Tup (gs.map Gd.ty),aA gs y->ZL gs y<=Fj ds->LL P f (Dz ⟨ss,[]⟩ (BO (gs.map Gd.ty) y)).1 [] (.b true) [])
   {r:Reach} {b0:Nat} {args:Array Value} {ps:List MemPlace}
   (hval:∀ (j:Nat) t v,ts[j]? = some t->args[j]? = some v->Value.okWide P W r b0 t v) (hd:DataW.TrodAll enc P W base sp held ts args.toList ds ps) :
   Calls P f args W fun e w'=>e=.returned (.bool true)/\Below W.heap.size W w':=by
 obtain ⟨l,m,hl,hm,xs,hxs,rxs⟩:=KP ha (fun j t v a b=>hval j t v a (by simpa using b)) hd
 obtain ⟨y,hy,gy,ky⟩:=hl.fq
 have h:=law y gy (by omega)
 rw [hy] at h
 have e:(Dz ⟨ss,[]⟩ l).1=xs:=by
   have:=hxs []
   rw [List.append_nil] at this
   simp only [Dz,this]
 rw [e] at h
 exact dc.calls (f:=f) (vs:=xs.map X.enc) h hG rxs
theorem MV (hG:GN W){n:Nat}{f:FuncId}{ts:List TypeId}{ss:List Sh}{gs:List Gd}(ha:Hu P n ts=some (ss,gs))
   (law:∀ y:Tup (gs.map Gd.ty),aA gs y->LL P f (Dz ⟨ss,[]⟩ (BO (gs.map Gd.ty) y)).1 [] (.b true) [])
   {r:Reach} {b0:Nat} {args:Array Value} {ds:List (DataW H)} {ps:List MemPlace}
   (hval:∀ (j:Nat) t v,ts[j]? = some t->args[j]? = some v->Value.okWide P W r b0 t v) (hd:DataW.TrodAll enc P W base sp held ts args.toList ds ps) :
   Calls P f args W fun e w'=>e=.returned (.bool true)/\Below W.heap.size W w' :=
 Et hG ha (fun y g _=>law y g) hval hd
end Go.Proofs.YtobfoiomjfdjjaaDoor.Mc
namespace Go.Proofs.YtobfoiomjfdjjaaDoor.Mc
open Go.RowKit
variable [Mo]
variable {P:Program}
def QI (w:World):Prop:=∀ g cells,AM g=some cells->∀ (j:Nat) v,cells[j]? = some (T.sc v)->w.cell? ⟨g,j,none⟩=some v
theorem AK.Yr {B:BB}{w:World}{F:Nat->Prop}{loc:Nat->Option Loc}{s:AE}(hS:AK AM B w F loc s):QI w:=by
 intro g cells hg j v hj
 obtain ⟨_,val,hc,hr⟩:=hS.FE g cells hg
 rw [hc j (List.getElem?_eq_some_iff.1 hj).1]
 have:=hr j _ hj
 cases this with
 | sc=>rfl
theorem AK.below {G:BA}{B:BB}{w w':World}{F:Nat->Prop}{loc:Nat->Option Loc}{s:AE}(hS:AK G B w F loc s)(hb:Below w.heap.size w w')(hdr:Mo.m=true->w.drawn<=w'.drawn):AK G B w' F loc s:=by
 have hk:Kept w F w' F:=fun b hF=>⟨hF,hb.block b (hS.BF b hF).1⟩
 refine ⟨?_,hS.Fp,hS.inj,?_,?_,hS.RF,hb.os.trans hS.os,hb.tape.trans hS.tape,hb.output.trans hS.output,Nat.le_trans hS.size hb.size,?_,hS.QB,?_,fun h=>Nat.le_trans (hS.Pv h) (hdr h)⟩
 · intro o obj ho
   obtain ⟨l,hl,hr⟩:=hS.Cg o obj ho
   exact ⟨l,hl,hr.mono hk (Ak.refl _) (fun b hb'=>hb.block b (hS.own o l b hl hb').1) fun c _ _ _ _ ⟨i,hi⟩ _=>hb.block c (hS.own i _ c hi rfl).1⟩
 · intro o l b h1 h2
   have:=hS.own o l b h1 h2
   exact ⟨Nat.lt_of_lt_of_le this.1 hb.size,this.2⟩
 · intro b hF
   have:=hS.BF b hF
   exact ⟨Nat.lt_of_lt_of_le this.1 hb.size,this.2⟩
 · intro b hb1 hx
   rw [hb.block b (Nat.lt_of_lt_of_le hb1 hS.size)]
   exact hS.keep b hb1 hx
 · intro g cells hg
   obtain ⟨hF,val,hc,hr⟩:=hS.FE g cells hg
   exact ⟨hF,val,fun j hj=>(BD (w:=w) (hk g hF).2).trans (hc j hj),fun j x hj=>(hr j x hj).mono hk⟩
omit [Mo] in
theorem RW {w:World} {F:Nat->Prop} {loc:Nat->Option Loc}:∀ {vs args:List Value},CF w F loc (vs.map fun v=>V.t (.sc v)) args->args=vs
 | [],[],_=>rfl
 | [],_ :: _,h=>by have:=h.1; simp at this
 | _ :: _,[],h=>by have:=h.1; simp at this
 | v :: vs,a :: bs,h=>by
   obtain ⟨u,hu,hr⟩:=h.2 0 _ rfl
   cases hu
   have h1:=AP hr
   have h2:bs=vs:=RW ⟨by have:=h.1; simpa using this,fun j y hj=>by
     obtain ⟨u,hu,hr⟩:=h.2 (j+1) y (by simpa using hj)
     exact ⟨u,by simpa using hu,hr⟩⟩
   rw [h1,h2]
theorem LL.iU {f:FuncId}{xs:List X}{vs:List Value}{r:X}{u:Value}(hx:xs.map X.enc=vs.map fun v=>V.t (.sc v))(hr:∀ (w:World) (F:Nat->Prop) (loc:Nat->Option Loc),AF w F loc r.enc u)
   (h:∀ w,QI w->Calls P f vs.toArray w fun e w'=>e=.returned u/\Below w.heap.size w w' /\ (Mo.m=true->w.drawn<=w'.drawn)):LL P f xs [] r []:=by
 intro F loc w args hn hS hA
 rw [hx] at hA
 obtain rfl:=RW hA
 refine (h w hS.Yr).mono ?_
 rintro e w' ⟨rfl,hb,hd⟩
 exact ⟨u,F,loc,r.enc,encS [],rfl,hS.below hb hd,hr w' F loc,rfl,rfl⟩
omit [Mo] in
theorem Vl {w:World}{F:Nat->Prop}{loc:Nat->Option Loc}{k k':IntKind}{a b:Int}:AF w F loc (X.enc (.tp [.i k a,.i k' b])) (.tuple #[.int k a,.int k' b]):=by
 refine .tp _ [.int k a,.int k' b] (fun j=>[Value.int k a,.int k' b].getD j undef) rfl (fun j hj=>?_) (fun j y hj=>?_)
 · match j,hj with
   | 0,_=>rfl
   | 1,_=>rfl
   | j+2,hj=>exact absurd (show j+2 < 2 from hj) (by omega)
 · match j,hj with
   | 0,hj=>cases hj; exact .t _ _ (.sc _ rfl)
   | 1,hj=>cases hj; exact .t _ _ (.sc _ rfl)
   | j+2,hj=>simp [Bp] at hj
def HI:List T:=(List.range 256).map fun c=>T.sc (.int .u8 ((Lib.firstT c:Nat):Int))
def MA:List T:=(List.range 32).map fun j=>T.sc (.int .u8 ((if j % 2=0 then Lib.accLo (j / 2) else Lib.accHi (j / 2):Nat):Int))
omit [Mo] in
theorem WX {g3 g4:Nat}(h3:AM g3=some HI)(h4:AM g4=some MA){w:World}(h:QI w):Lib.Utf8Tabs g3 g4 w:=by
 refine ⟨fun c hc=>h g3 _ h3 c _ (by simp [HI,hc]),fun i hi=>⟨h g4 _ h4 (2 * i) _ ?_,h g4 _ h4 (2 * i+1) _ ?_⟩⟩
 · simp [MA,show 2 * i < 32 by omega]
 · simp [MA,show 2 * i+1 < 32 by omega,show (2 * i+1) % 2 ≠ 0 by omega,show (2 * i+1) / 2=i by omega]
omit [Mo] in
theorem LX {g:Nat}{w:World}{n:Nat}{v:Nat->Value}{cells:List T}(hc:cells=(List.range n).map fun j=>T.sc (v j))(hn:0 < n)(hp:∀ j,j < n->plain (v j)=true)(h:∀ j,j < n->w.cell? ⟨g,j,none⟩=some (v j)) :
   g < w.heap.size/\∃ val:Nat->Value,(∀ j,j < cells.length->w.cell? ⟨g,j,none⟩=some (val j))/\∀ (j:Nat) (x:T),cells[j]? = some x->BG w (Ev w) x (val j):=by
 subst hc
 refine ⟨?_,v,fun j hj=>h j (by simpa using hj),fun j x hj=>?_⟩
 · have:=h 0 hn
   unfold World.cell? at this
   by_cases hb:g < w.heap.size
   · exact hb
   · simp [Array.getElem?_eq_none (Nat.le_of_not_lt hb)] at this
 · have hj':j < n:=by have:=(List.getElem?_eq_some_iff.1 hj).1; simpa using this
   simp [hj'] at hj
   subst hj
   exact .sc _ (hp j hj')
omit [Mo] in
theorem OY {g3 g4:Nat}{w:World}(h:Lib.Utf8Tabs g3 g4 w):g3 < w.heap.size/\∃ val:Nat->Value,(∀ j,j < HI.length->w.cell? ⟨g3,j,none⟩=some (val j))/\∀ (j:Nat) (x:T),HI[j]? = some x->BG w (Ev w) x (val j) :=
 LX (n:=256) rfl (by omega) (fun _ _=>rfl) fun j hj=>h.1 j hj
omit [Mo] in
theorem TD {g3 g4:Nat} {w:World} (h:Lib.Utf8Tabs g3 g4 w):g4 < w.heap.size/\∃ val:Nat->Value,(∀ j,j < MA.length->w.cell? ⟨g4,j,none⟩=some (val j))/\∀ (j:Nat) (x:T),MA[j]? = some x->BG w (Ev w) x (val j) :=
 LX (n:=32) rfl (by omega) (fun _ _=>rfl) fun j hj=>by
   by_cases hm:j % 2=0
   · have:=(h.2 (j / 2) (by omega)).1
     rw [show 2 * (j / 2)=j by omega] at this
     rw [if_pos hm]; exact this
   · have:=(h.2 (j / 2) (by omega)).2
     rw [show 2 * (j / 2)+1=j by omega] at this
     rw [if_neg hm]; exact this
def Je (W:World)(g:Nat)(ss:List ByteArray):Prop:=∀ (j:Nat) (s:ByteArray),ss[j]? = some s->W.cell? ⟨g,j,none⟩=some (.string s)
def Jz (ss:List ByteArray):List T:=ss.map fun s=>T.sc (.string s)
omit [Mo] in
theorem RJ {P:Program}{W:World}{n:String}{ss:List ByteArray}{g t e m:Nat}(h:Lib.VarReads P W n (.agg (ss.map fun s=>.lit (.string s.data.toList))))(hg:P.globalNamed n=some g)(hty:(P.globals[g]?).map (·.type)=some t)
   (ht:P.underlying t=some (.array m e)) (he:P.underlying e=some .string) (hc:P.cellsOf e=1) (hl:ss.length=m):Je W g ss:=by
 intro j s hj
 obtain ⟨g', t', cs,fuel,p,hg', hty', hvar,hd⟩:=h
 obtain rfl:=Option.some.inj (hg.symm.trans hg')
 obtain rfl:=Option.some.inj (hty.symm.trans hty')
 have hjl:j < m:=by rw [<- hl]; exact (List.getElem?_eq_some_iff.1 hj).1
 obtain ⟨fuel', d,q,hdi,hel⟩:=Lib.array_elem ht hd j hjl
 rw [List.getElem?_map,hj] at hdi
 simp only [Option.map_some,Option.some.injEq] at hdi
 subst hdi
 rw [hc,Nat.mul_one] at hel
 obtain ⟨s', hcs,hx,_⟩:=DataW.trod_string he hel
 have e1:s.data.toList=s'.data.toList:=by
   have:=congrArg Prod.fst hx
   simpa using this
 have e2:s=s':=by
   apply ByteArray.ext
   exact Array.toList_inj.1 e1
 subst e2
 have e3:=congrArg (·[0]?) hcs
 simp only [List.getElem?_take,List.getElem?_drop] at e3
 rw [World.var?_cell hg hvar j,<- Array.getElem?_toList]
 simpa using e3
omit [Mo] in
theorem PY {g:Nat}{w:World}{ss:List ByteArray}(hn:0 < ss.length)(h:Je w g ss) :
   g < w.heap.size/\∃ val:Nat->Value,(∀ j,j < (Jz ss).length->w.cell? ⟨g,j,none⟩=some (val j))/\∀ (j:Nat) (x:T),(Jz ss)[j]? = some x->BG w (Ev w) x (val j):=by
 refine ⟨?_,fun j=>.string (ss.getD j ⟨#[]⟩),fun j hj=>?_,fun j x hj=>?_⟩
 · have:=h 0 ss[0] (List.getElem?_eq_getElem hn)
   unfold World.cell? at this
   by_cases hb:g < w.heap.size
   · exact hb
   · simp [Array.getElem?_eq_none (Nat.le_of_not_lt hb)] at this
 · have hj':j < ss.length:=by unfold Jz at hj; simpa using hj
   rw [h j _ (List.getElem?_eq_getElem hj')]
   simp [List.getD,hj']
 · unfold Jz at hj
   rw [List.getElem?_map] at hj
   obtain ⟨s,hs,rfl⟩:=Option.map_eq_some_iff.1 hj
   have:ss.getD j ⟨#[]⟩=s:=by simp [List.getD,hs]
   dsimp only
   rw [this]
   exact .sc _ rfl
omit [Mo] in
theorem My {g0 g3 g4:Nat} {ss:List ByteArray} (h0:AM g0=some (Jz ss)) (hn:0 < ss.length) (h3:AM g3=some HI) (h4:AM g4=some MA) (hno:∀ g,g ≠ g0->g ≠ g3->g ≠ g4->AM g=none) {W:World} (h:Je W g0 ss) (hu:Lib.Utf8Tabs g3 g4 W):GN W:=by
 intro g cells hg
 by_cases e0:g=g0
 · subst e0; rw [h0] at hg; cases hg; exact PY hn h
 · by_cases e3:g=g3
   · subst e3; rw [h3] at hg; cases hg; exact OY hu
   · by_cases e4:g=g4
     · subst e4; rw [h4] at hg; cases hg; exact TD hu
     · rw [hno g e0 e3 e4] at hg; cases hg
omit [Mo] in
theorem OG:∀ (l:List (Nat × (r:Row) × List r.den)) (g:Nat),(∀ p ∈ l,g ≠ p.1)->cr l g=none
 | [],_,_=>rfl
 | (i,a) :: l,g,h=>by
   have h1:Nat.beq i g=false:=by rw [<- Bool.not_eq_true,Nat.beq_eq]; exact fun e=>h (i,a) (by simp) e.symm
   rw [cr,h1,cond_false]
   exact OG l g fun p hp=>h p (by simp [hp])
omit [Mo] in
theorem PH {g:Nat}(h:∀ p ∈ Wv,g ≠ p.1):AM g=none:=by unfold AM; rw [OG Wv g h]
end Go.Proofs.YtobfoiomjfdjjaaDoor.Mc
namespace Go.Proofs.YtobfoiomjfdjjaaDoor.Mc
open Go.RowKit Go.Sort
variable {P:Program}
theorem LL.dB {g:FuncId} {a b:ByteArray} {n:Int} (h:@LL ⟨true⟩ P g [.s a,.s b] [] (.i .i64 n) []) {W:World} {F:Nat->Prop} (hfz:∀ k,F k->k < W.heap.size)
   (hgl:∀ g cells,AM g=some cells->F g/\∃ val:Nat->Value,(∀ j,j < cells.length->W.cell? ⟨g,j,none⟩=some (val j))/\∀ (j:Nat) (x:T),cells[j]? = some x->BG W F x (val j)) :
   Calls P g #[.string a,.string b] W fun e w'=>e=.returned (.int .i64 n)/\∃ q os', w' = grow (W.drewN q) os':=by
 letI:Mo:=⟨true⟩
 have hno:∀ (o:Nat) (l:Loc),(fun _=>none:Nat->Option Loc) o=some l->1000000<=o:=fun _ _ h=>by cases h
 have hS:AK AM (DT (fun _=>none) W F hno) W F (fun _=>none) (encS []):=by
   refine ⟨?_,?_,?_,?_,fun b hb=>⟨hfz b hb,.inl hb⟩,fun b hb=>hb,rfl,rfl,rfl,Nat.le_refl _,fun _ _ _=>rfl,?_,hgl,fun _=>Nat.le_refl _⟩
   · intro o obj ho; exact absurd (show (none:Option (Option O))=some obj from ho) (by simp)
   · intro o l hl; cases hl
   · intro o o' l l' b h1; cases h1
   · intro o l b h1; cases h1
   · intro o l ho; cases ho
 have hA:CF W F (fun _=>none) ([X.s a,X.s b].map X.enc) [.string a,.string b]:=by
   refine ⟨rfl,fun j x hj=>?_⟩
   match j,hj with
   | 0,hj=>cases hj; exact ⟨_,rfl,.t _ _ (.sc _ rfl)⟩
   | 1,hj=>cases hj; exact ⟨_,rfl,.t _ _ (.sc _ rfl)⟩
   | j+2,hj=>simp at hj
 refine (h F (fun _=>none) W [.string a,.string b] hno hS hA).mono ?_
 rintro e w' ⟨v,F', loc', r,s', rfl,hS', hr,rfl,rfl⟩
 have hv:v=.int .i64 n:=AP hr
 subst hv
 refine ⟨rfl,w'.drawn - W.drawn,w'.heap.extract W.heap.size w'.heap.size,?_⟩
 have hd:W.drawn<=w'.drawn:=hS'.Pv rfl
 have hsz:W.heap.size<=w'.heap.size:=hS'.size
 have hk:∀ k,k < W.heap.size->w'.heap[k]? = W.heap[k]? := fun k hk=>hS'.keep k hk fun ⟨o,l,h,_⟩=>by cases h
 have e1:=hS'.os
 have e2:=hS'.tape
 have e3:=hS'.output
 obtain ⟨heap', tape', drawn', os', output'⟩:=w'
 simp only at e1 e2 e3 hd hsz hk
 subst e1 e2 e3
 have eh:heap' = W.heap ++ heap'.extract W.heap.size heap'.size:=by
   apply Array.ext_getElem?
   intro k
   by_cases hk':k < W.heap.size
   · rw [Array.getElem?_append_left hk']; exact hk k hk'
   · rw [Array.getElem?_append_right (by omega),Array.getElem?_extract]
     by_cases hk2:k < heap'.size
     · rw [if_pos (by omega)]; congr 1; omega
     · rw [if_neg (by omega),Array.getElem?_eq_none (by omega)]
 simp only [grow,World.drewN]
 congr 1
 omega
variable [Mo]
def NR (cmp:ByteArray->ByteArray->Option Int)(x y:ByteArray):Bool:=match cmp x y with | some n=>decide (n < 0) | none=>false
structure Nb (cmp:ByteArray->ByteArray->Option Int)(xs:List ByteArray):Prop where
 some:∀ a ∈ xs,∀ b ∈ xs,∃ n,cmp a b=some n
 irrefl:∀ a ∈ xs,NR cmp a a=false
 trans:∀ a ∈ xs,∀ b ∈ xs,∀ c ∈ xs,NR cmp a b=true->NR cmp b c=true->NR cmp a c=true
 ntrans:∀ a ∈ xs,∀ b ∈ xs,∀ c ∈ xs,NR cmp a b=false->NR cmp b c=false->NR cmp a c=false
 total:∀ a ∈ xs,∀ b ∈ xs,NR cmp a b=false->NR cmp b a=false->a=b
 size:xs.length < 4611686018427387904
noncomputable def Kl (cmp:ByteArray->ByteArray->Option Int)(xs:List ByteArray):Option (List ByteArray) :=
 open Classical in if Nb cmp xs then some (xs.mergeSort fun x y => !(NR cmp y x)) else none
omit [Mo] in
theorem SX {cmp:ByteArray->ByteArray->Option Int}{xs ys:List ByteArray}(h:Kl cmp xs=some ys):Nb cmp xs/\ys=xs.mergeSort fun x y => !(NR cmp y x):=by
 unfold Kl at h
 split at h
 · cases h; exact ⟨by assumption,rfl⟩
 · cases h
omit [Mo] in
theorem Ut {cmp:ByteArray->ByteArray->Option Int}{xs:List ByteArray}(h:Nb cmp xs):Kl cmp xs=some (xs.mergeSort fun x y => !(NR cmp y x)):=by
 unfold Kl; rw [if_pos h]
def ER:Row:=.str .nil
theorem AK.sorted {B:BB} {w:World} {F:Nat->Prop} {loc:Nat->Option Loc} {s:AE} (hS:AK AM B w F loc s) {α:Type} [Inhabited α] {en:α->ByteArray} {o e:Nat} {rows:List (List T)} {g cap:Nat} {cells:List Value} {D:Array α} {n:Nat} {os:Array Obj}
   (he1:e < 1000000) (ho:loc o=some (.arr (some g) rows.length cap 1)) (hown:w.ownsRow 0 e 1 (.slice (some ⟨g,0,none⟩) rows.length cap) rows.length cells) (hD:D.size=rows.length) :
   AK AM B (sortWorld (fun x=>Value.string (en x)) w g 0 n D os) F loc (Ae s o (some (some (.ar e 1 (D.toList.map fun x=>[T.sc (.string (en x))]))))):=by
 obtain ⟨cur,hg,hnc,hcm,hcs,htake⟩:∃ cur,w.heap[g]? = some (.cells cur e (0,0))/\rows.length<=cap/\cap<=maxLen/\cur.size=cap * 1/\cur.toList.take (rows.length * 1)=cells:=by
   rcases hown.2 with ⟨h,_⟩ | ⟨g', cap', cur,hv,_,h2,h3,h4,h5,h6⟩
   · cases h
   · cases hv; exact ⟨cur,h2,h3,h4,h5,h6⟩
 let w1:=putRow (fun x=>Value.string (en x)) w g 0 D
 have hg1:w1.heap[g]? = some (.cells (putCells (fun x=>Value.string (en x)) 0 D cur) e (0,0)):=by
   simp only [w1,putRow,mapBlock,Array.getElem?_modify,hg,if_true,Option.map_some,onCells]
 have hot:∀ k,k ≠ g->w1.heap[k]? = w.heap[k]? := fun k hk=>by
   simp only [w1,putRow,mapBlock,Array.getElem?_modify]
   rw [if_neg (Ne.symm hk)]
 have hcell:∀ (i:Nat) (x:α),D[i]? = some x->(putCells (fun x=>Value.string (en x)) 0 D cur)[i]? = some (.string (en x)):=by
   intro i x hx
   have hi:i < D.size:=(Array.getElem?_eq_some_iff.1 hx).1
   have hic:i < cur.size:=by omega
   simp only [putCells,Array.getElem?_mapIdx,Array.getElem?_eq_getElem hic,Option.map_some,Nat.zero_add,Nat.zero_le,true_and,if_pos hi,Nat.sub_zero]
   rw [getElem!_pos D i hi]
   congr 3
   exact Option.some.inj ((Array.getElem?_eq_getElem hi).symm.trans hx)
 have hlen:(D.toList.map fun x=>[T.sc (.string (en x))]).length=rows.length:=by rw [List.length_map,Array.length_toList]; exact hD
 have hx:BZ w1 F loc (some (.ar e 1 (D.toList.map fun x=>[T.sc (.string (en x))]))) (.arr (some g) rows.length cap 1):=by
   have:=BZ.ar (w:=w1) (F:=F) (loc:=loc) e 1 (D.toList.map fun x=>[T.sc (.string (en x))]) (some g) cap ((putCells (fun x=>Value.string (en x)) 0 D cur).toList.take rows.length) (by decide) (by
     intro r hr; obtain ⟨x,_,rfl⟩:=List.mem_map.1 hr; rfl) (by
     rw [hlen]
     refine Bx ⟨?_,.inr ⟨g,cap,_,rfl,Nat.zero_le _,hg1,hnc,hcm,?_,by rw [Nat.mul_one]⟩⟩ he1
     · simp [putCells]; omega
     · simp [putCells]; omega) (by
     intro u hu
     obtain ⟨i,hi⟩:=List.getElem?_of_mem hu
     rw [List.getElem?_take] at hi
     split at hi
     · rename_i hlt
       have hiD:i < D.size:=by omega
       rw [Array.getElem?_toList,hcell i _ (Array.getElem?_eq_getElem hiD)] at hi
       cases hi; rfl
     · cases hi) (by
     intro i r hi j x hj
     rw [List.getElem?_map] at hi
     obtain ⟨y,hy,rfl⟩:=Option.map_eq_some_iff.1 hi
     rw [Array.getElem?_toList] at hy
     have hiD:i < D.size:=(Array.getElem?_eq_some_iff.1 hy).1
     cases j with
     | zero =>
       cases hj
       refine ⟨.string (en y),?_,.sc _ rfl⟩
       rw [List.getElem?_take,if_pos (by omega),Nat.mul_one,Nat.add_zero,Array.getElem?_toList]
       exact hcell i y hy
     | succ j=>simp at hj)
   rwa [hlen] at this
 obtain ⟨h1,hk⟩:=hS.turn (w':=w1) ho rfl (by simp [w1]) rfl rfl rfl hot hx (fun m h=>by
   obtain ⟨l,h1,h2⟩:=hS.Cg o _ h
   rw [ho] at h1
   cases h1; cases h2)
 refine h1.below (w':=sortWorld (fun x=>Value.string (en x)) w g 0 n D os) ?_ (fun _=>?_)
 · have e:sortWorld (fun x=>Value.string (en x)) w g 0 n D os=grow (Go.Sort.ahead w1 n) os:=by unfold sortWorld; rw [putRow_ahead]
   rw [e]
   exact ⟨rfl,rfl,rfl,by simp [grow],fun k hk=>by simp only [grow,heap_ahead]; rw [Array.getElem?_append_left hk]⟩
 · show w1.drawn<=_
   simp [sortWorld,grow,w1]
theorem LL.UB {ρ:Shelf.Ren} (L:SlLaysF.n6 P ρ) (Lz:SlLaysF0.n6 P ρ) {g:FuncId} (eg:∀ args w,(callFunc g args).run P w=.ok (.enter g args) w) {cmp:ByteArray->ByteArray->Option Int} (hc:∀ a b n,cmp a b=some n->@LL ⟨true⟩ P g [.s a,.s b] [] (.i .i64 n) [])
   (e:TypeId) (he1:e < 1000000) {xs ys:List ByteArray} (h:Kl cmp xs=some ys) :
   LL P (ρ.f 6) [.sl .u 1000000,.c (.func (.func g) #[] #[])] [(1000000,some (.ar e ER xs))] (.tp []) [(1000000,some (.ar e ER ys))]:=by
 obtain ⟨hok,rfl⟩:=SX h
 intro F loc w args hn hS hA
 have ho:encS [(1000000,some (.ar e ER xs))] 1000000=some (some (.ar e 1 (xs.map ER.en))):=rfl
 obtain ⟨b,cap,cells,hl,_,hrl,hownR,h1,hr⟩:=hS.row (o:=1000000) (e:=e) (sz:=1) (rows:=xs.map ER.en) (by unfold Mc.get; rw [ho])
 have hown:=Fe hownR he1
 have hml:(xs.map ER.en).length=xs.length:=List.length_map _
 rw [hml] at hl hown
 obtain ⟨v0,hv0,r0⟩:=hA.2 0 _ rfl
 obtain ⟨v1,hv1,r1⟩:=hA.2 1 _ rfl
 have hv0':=(CY r0 hl).1
 have hv1':v1=.func (.func g) #[] #[]:=AP r1
 have hargs:args=[.slice (b.map fun b=>⟨b,0,none⟩) xs.length cap,.func (.func g) #[] #[]]:=by
   have hlen:=hA.1
   match args,hlen,hv0,hv1 with
   | [a,c],_,hv0,hv1=>cases hv0; cases hv1; rw [hv0', hv1']
 subst hargs
 cases xs with
 | nil =>
   refine (AnyF.slices_SortFunc_none Lz (b.map fun b=>⟨b,0,none⟩) cap (.func (.func g) #[] #[]) w).mono ?_
   rintro e' w' ⟨rfl,rfl⟩
   exact ⟨_,F,loc,vU,_,rfl,hS,.tp [] [] (fun _=>.nilIface) rfl (fun j hj=>absurd hj (by simp)) (fun j x hj=>by simp at hj),rfl,by rw [List.mergeSort_nil]⟩
 | cons x0 xs0 =>
   obtain ⟨g0,rfl⟩:=Dx (Bx hown he1) (by simp)
   generalize hxs:x0 :: xs0=xs at *
   let α:={a:ByteArray // a ∈ xs}
   haveI:Inhabited α:=⟨⟨x0,by rw [<- hxs]; simp⟩⟩
   let d:Array α:=xs.attach.toArray
   let cf:α->α->Int:=fun x y=>(cmp x.1 y.1).getD 0
   have hcf:∀ x y:α,cmp x.1 y.1=some (cf x y):=fun x y=>by
     obtain ⟨n,hn⟩:=hok.some x.1 x.2 y.1 y.2
     simp only [cf,hn,Option.getD_some]
   have hlt:∀ x y:α,ltOf cf x y=NR cmp x.1 y.1:=fun x y=>by
     unfold ltOf NR; rw [hcf x y]
   have hO:SWO (ltOf cf):=⟨fun x=>by rw [hlt]; exact hok.irrefl _ x.2,fun x y z=>by simp only [hlt]; exact hok.trans _ x.2 _ y.2 _ z.2,fun x y z=>by simp only [hlt]; exact hok.ntrans _ x.2 _ y.2 _ z.2⟩
   have hT:∀ x y:α,ltOf cf x y=false->ltOf cf y x=false->x=y:=fun x y=>by
     simp only [hlt]; exact fun a b=>Subtype.ext (hok.total _ x.2 _ y.2 a b)
   have hds:d.size=xs.length:=by show xs.attach.toArray.size=_; rw [List.size_toArray,List.length_attach]
   have hgw:=hS.own 1000000 _ g0 hl rfl
   have hfzw:∀ k,F k->k < w.heap.size:=fun k hk=>(hS.BF k hk).1
   have hH:Holds (fun x:α=>Value.string x.1) w g0 0 d:=by
     intro j hj
     have hj':j < xs.length:=by omega
     obtain ⟨cur,hg,hnc,hcm,hcs,htake⟩:∃ cur,w.heap[g0]? = some (.cells cur e (0,0))/\xs.length<=cap/\cap<=maxLen/\cur.size=cap * 1/\cur.toList.take (xs.length * 1)=cells:=by
       rcases hown.2 with ⟨h,_⟩ | ⟨g', cap', cur,hv,_,h2,h3,h4,h5,h6⟩
       · cases h
       · cases hv; exact ⟨cur,h2,h3,h4,h5,h6⟩
     obtain ⟨u,hu,hrel⟩:=hr j [.sc (.string xs[j])] (by
       have e:(xs.map fun s=>[T.sc (.string s)])[j]? = some [T.sc (.string xs[j])]:=by rw [List.getElem?_map,List.getElem?_eq_getElem hj']; rfl
       exact e) 0 (.sc (.string xs[j])) rfl
     have hu':u=.string xs[j]:=by cases hrel; rfl
     subst hu'
     refine ⟨?_,?_⟩
     · have:=El (Bx hown he1) (g:=g0) rfl hu
       rw [Nat.mul_one,Nat.add_zero] at this
       rw [Nat.zero_add,this,getElem!_pos d j hj]
       show some (Value.string xs[j])=some (Value.string (xs.attach.toArray[j]).1)
       rw [List.getElem_toArray,List.getElem_attach]
     · simp [World.frozen?,hg]
   let W:=fun (m:Nat) (dk:Array α) (os:Array Obj)=>sortWorld (fun x:α=>Value.string x.1) w g0 0 m dk os
   have hW:∀ m dk os k,k < w.heap.size->k ≠ g0->(W m dk os).heap[k]? = w.heap[k]? := by
     intro m dk os k hk hne
     simp only [W,sortWorld,grow,putRow,mapBlock,heap_ahead]
     rw [Array.getElem?_append_left (by simpa using hk),Array.getElem?_modify,if_neg (Ne.symm hne)]
   have hWs:∀ m dk os,w.heap.size<=(W m dk os).heap.size:=by
     intro m dk os
     simp [W,sortWorld,grow]
   have hcmp:CmpLays1 P g #[] (fun x:α=>Value.string x.1) cf g0 0 d.size w:=by
     intro m os dk hdk x y
     have hk:Kept w F (W m dk os) F:=fun k hk=>⟨hk,hW m dk os k (hfzw k hk) (fun e=>hgw.2.1 (e ▸ hk))⟩
     have:=LL.dB (hc x.1 y.1 _ (hcf x y)) (W:=W m dk os) (F:=F) (fun k hk=>Nat.lt_of_lt_of_le (hfzw k hk) (hWs m dk os)) (fun g' cells' hg'=>by
       obtain ⟨hF,val,h2,h3⟩:=hS.FE g' cells' hg'
       exact ⟨hF,val,fun j hj=>(BD (w:=w) (hk g' hF).2).trans (h2 j hj),fun j z hj=>(h3 j z hj).mono hk⟩)
     exact this
   have hsort:=Any.slices_SortFunc_total L (fun x:α=>Value.string x.1) (fun _=>rfl) cf hO g #[] g0 0 cap d w eg hcmp hH hgw.1 (by rw [hds]; exact hok.size) hT
   rw [hds] at hsort
   refine Calls.mono hsort ?_
   rintro e' w' ⟨rfl,n,os,rfl⟩
   have hsd:=hS.sorted (he1:=he1) (α:=α) (en:=fun x=>x.1) (o:=1000000) (e:=e) (rows:=xs.map ER.en) (g:=g0) (cap:=cap) (cells:=cells) (D:=(d.toList.mergeSort fun x y => !(ltOf cf) y x).toArray) (n:=n) (os:=os) (by rw [hml]; exact hl) (by rw [hml]; exact hown) (by rw [hml]; show (List.mergeSort d.toList _).toArray.size=_; rw [List.size_toArray,List.length_mergeSort,Array.length_toList,hds])
   have hm:(d.toList.mergeSort fun x y => !(ltOf cf) y x).map (fun x=>x.1)=xs.mergeSort fun x y => !(NR cmp y x):=by
     rw [List.map_mergeSort (s:=fun x y => !(NR cmp y x)) (fun a _ b _=>by rw [hlt])]
     congr 1
     simp only [d]
     exact List.attach_map_subtype_val xs
   have hst:Ae (encS [(1000000,some (.ar e ER xs))]) 1000000 (some (some (.ar e 1 (((d.toList.mergeSort fun x y => !(ltOf cf) y x).toArray).toList.map fun x=>[T.sc (.string x.1)]))))=encS [(1000000,some (.ar e ER (xs.mergeSort fun x y => !(NR cmp y x))))]:=by
     rw [<- hm]
     funext k
     by_cases hk:k=1000000
     · subst hk
       rw [AA]
       show _=some (some (O.ar e 1 (List.map (fun s:ByteArray=>[T.sc (.string s)]) _)))
       rw [List.map_map]
       rfl
     · rw [AJ _ _ hk]
       have hb:Nat.beq 1000000 k=false:=by rw [<- Bool.not_eq_true,Nat.beq_eq]; exact Ne.symm hk
       simp only [encS,lk,hb,cond_false]
   rw [hst] at hsd
   exact ⟨_,F,loc,vU,_,rfl,hsd,.tp [] [] (fun _=>.nilIface) rfl (fun j hj=>absurd hj (by simp)) (fun j x hj=>by simp at hj),rfl,rfl⟩
end Go.Proofs.YtobfoiomjfdjjaaDoor.Mc
namespace Go.Proofs.YtobfoiomjfdjjaaDoor.Mc
open Go.RowKit Go.Shelf
variable {P:Program}{ρ:Shelf.Ren}
set_option maxHeartbeats 1000000 in
set_option maxRecDepth 100000 in
theorem LQ (L:Lays.n169 P ρ) (X:Builder.Extra P ρ) (b g cap:Nat) (p:Value) (cur:Array Value) (fr:Nat × Nat) (l:List UInt8) (w:World) (hbk:w.heap[b]? = some (.cells #[p,.slice (some ⟨g,0,none⟩) l.length cap] (ρ.t 72) (0,0)))
   (hg:w.heap[g]? = some (.cells cur (ρ.t 5) fr)) (hnc:l.length<=cap) (hcm:cap<=maxLen) (hcs:cur.size=cap) (htake:cur.toList.take l.length=Lib.byteCells l) (h0:l ≠ []) :
   Calls P (ρ.f 169) #[.pointer (some ⟨b,0,none⟩)] w fun e w'=>e=.returned (.string ⟨l.toArray⟩)/\w' = w.drew.freeze ⟨g,0,none⟩ l.length:=by
 have hl0:l.length ≠ 0:=by simpa using h0
 have c1:w.drew.cell? ⟨b,1,none⟩=some (.slice (some ⟨g,0,none⟩) l.length cap):=by
   have:w.drew.heap[b]? = some (.cells #[p,.slice (some ⟨g,0,none⟩) l.length cap] (ρ.t 72) (0,0)):=hbk
   rw [Lib.cell_of_heap this]; rfl
 have hSD:(Builtin.unsafeSliceData_ #[(ρ.t 37)] (ρ.t 127) #[.slice (some ⟨g,0,none⟩) l.length cap]).run P w.drew=.ok (.pointer (some ⟨g,0,none⟩)) w.drew :=
   Lib.run_unsafeSliceData_row _ _ _ _ _ _ (by omega)
 have hUS:(Builtin.unsafeString_ #[(ρ.t 127),(ρ.t 3)] (ρ.t 9) #[.pointer (some ⟨g,0,none⟩),.int .i64 l.length]).run P w.drew=.ok (.string ⟨l.toArray⟩) (w.drew.freeze ⟨g,0,none⟩ l.length):=by
   refine Lib.run_unsafeString_row w.drew (ρ.t 127) (ρ.t 3) (ρ.t 9) (ρ.t 5) L.t127 X.cellsByte g cur.size (by have hg':w.drew.heap[g]? = some (.cells cur (ρ.t 5) fr):=hg; simp [World.shape?,hg']) l h0 (by omega) (by unfold maxLen at hcm; omega) ?_
   intro j x hx
   have hadd:(⟨g,0,none⟩:Addr).add j=⟨g,j,none⟩:=by unfold Addr.add; split <;> simp_all
   have hj:(Lib.byteCells l)[j]? = some (.int .u8 x.toNat):=by simp [Lib.byteCells,hx]
   rw [<- htake,List.getElem?_take] at hj
   split at hj
   · rw [hadd]
     have hg':w.drew.heap[g]? = some (.cells cur (ρ.t 5) fr):=hg
     rw [Lib.cell_of_heap hg', <- Array.getElem?_toList]
     exact hj
   · cases hj
 have mixed:=L.mixed
 have t72:=L.t72; have a72:=L.a72; have z72:=L.z72; have v72:=L.v72; have u72:=run_underlying L.t72
 have t70:=L.t70; have a70:=L.a70; have z70:=L.z70; have v70:=L.v70; have u70:=run_underlying L.t70
 have t37:=L.t37; have a37:=L.a37; have z37:=L.z37; have v37:=L.v37; have u37:=run_underlying L.t37
 have t127:=L.t127; have a127:=L.a127; have z127:=L.z127; have v127:=L.v127; have u127:=run_underlying L.t127
 have t3:=L.t3; have a3:=L.a3; have z3:=L.z3; have v3:=L.v3; have u3:=run_underlying L.t3
 have t9:=L.t9; have a9:=L.a9; have z9:=L.z9; have v9:=L.v9; have u9:=run_underlying L.t9
 have t5:=X.t5; have a5:=X.a5; have z5:=X.z5; have v5:=X.v5; have u5:=run_underlying X.t5
 go_enter L.f169,Body.n169_ntmps ρ
 go_wp2
 go_region_o
 all_goals (go_wp2; go_ret; exact ⟨rfl,rfl⟩)
set_option maxHeartbeats 2000000 in
set_option maxRecDepth 100000 in
theorem KZ (L:Lays.n169 P ρ) (X:Builder.Extra P ρ) (b:Nat) (bb:Option Nat) (cap:Nat) (p:Value) (w:World) (hbk:w.heap[b]? = some (.cells #[p,.slice (bb.map fun g=>⟨g,0,none⟩) 0 cap] (ρ.t 72) (0,0)))
   (hg:∀ g,bb=some g->∃ cur fr,w.heap[g]? = some (.cells cur (ρ.t 5) fr)) (hn:bb=none->cap=0) :
   Calls P (ρ.f 169) #[.pointer (some ⟨b,0,none⟩)] w fun e w'=>e=.returned (.string ⟨#[]⟩)/\(w' = w.drew\/∃ o,w' = (w.alloc o).drew):=by
 have hUS:=Any.unsafeString_none L X
 have mixed:=L.mixed
 have t72:=L.t72; have a72:=L.a72; have z72:=L.z72; have v72:=L.v72; have u72:=run_underlying L.t72
 have t70:=L.t70; have a70:=L.a70; have z70:=L.z70; have v70:=L.v70; have u70:=run_underlying L.t70
 have t37:=L.t37; have a37:=L.a37; have z37:=L.z37; have v37:=L.v37; have u37:=run_underlying L.t37
 have t127:=L.t127; have a127:=L.a127; have z127:=L.z127; have v127:=L.v127; have u127:=run_underlying L.t127
 have t3:=L.t3; have a3:=L.a3; have z3:=L.z3; have v3:=L.v3; have u3:=run_underlying L.t3
 have t9:=L.t9; have a9:=L.a9; have z9:=L.z9; have v9:=L.v9; have u9:=run_underlying L.t9
 have t5:=X.t5; have a5:=X.a5; have z5:=X.z5; have v5:=X.v5; have u5:=run_underlying X.t5
 cases bb with
 | none =>
   obtain rfl:=hn rfl
   simp only [Option.map_none] at hbk
   have c1:w.drew.cell? ⟨b,1,none⟩=some (.slice none 0 0):=by
     have:w.drew.heap[b]? = some (.cells #[p,.slice none 0 0] (ρ.t 72) (0,0)):=hbk
     rw [Lib.cell_of_heap this]; rfl
   have hSD:(Builtin.unsafeSliceData_ #[(ρ.t 37)] (ρ.t 127) #[.slice none 0 0]).run P w.drew=.ok (.pointer none) w.drew:=rfl
   go_enter L.f169,Body.n169_ntmps ρ
   go_wp2
   go_region_o
   all_goals (go_wp2; go_ret; exact ⟨rfl,.inl rfl⟩)
 | some g =>
   obtain ⟨cur,fr,hg⟩:=hg g rfl
   simp only [Option.map_some] at hbk
   by_cases hc0:cap=0
   · subst hc0
     have hlt:b < w.heap.size:=by
       rcases Nat.lt_or_ge b w.heap.size with h' | h'
       · exact h'
       · simp [Array.getElem?_eq_none h'] at hbk
     have c1:w.drew.cell? ⟨b,1,none⟩=some (.slice (some ⟨g,0,none⟩) 0 0):=by
       have:w.drew.heap[b]? = some (.cells #[p,.slice (some ⟨g,0,none⟩) 0 0] (ρ.t 72) (0,0)):=hbk
       rw [Lib.cell_of_heap this]; rfl
     have hSD:(Builtin.unsafeSliceData_ #[(ρ.t 37)] (ρ.t 127) #[.slice (some ⟨g,0,none⟩) 0 0]).run P w.drew=.ok (.pointer (some ⟨w.drew.heap.size,0,none⟩)) (w.drew.alloc (.view ⟨g,0,none⟩ (ρ.t 5))) :=
       Lib.run_unsafeSliceData_zero w.drew _ _ (ρ.t 5) L.t127 ⟨g,0,none⟩ 0 ((ρ.t 5),cur.size) (by have hg':w.drew.heap[g]? = some (.cells cur (ρ.t 5) fr):=hg; simp [World.shape?,hg'])
     have c2:(w.drew.alloc (.view ⟨g,0,none⟩ (ρ.t 5))).cell? ⟨b,1,none⟩=some (.slice (some ⟨g,0,none⟩) 0 0):=by
       have:(w.drew.alloc (.view ⟨g,0,none⟩ (ρ.t 5))).heap[b]? = _:=(Lib.alloc_old w.drew _ b hlt).trans hbk
       rw [Lib.cell_of_heap this]; rfl
     have c3:(w.alloc (.view ⟨g,0,none⟩ (ρ.t 5))).drew.cell? ⟨b,1,none⟩=some (.slice (some ⟨g,0,none⟩) 0 0):=c2
     have c0:w.cell? ⟨b,1,none⟩=some (.slice (some ⟨g,0,none⟩) 0 0):=c1
     go_enter L.f169,Body.n169_ntmps ρ
     go_wp2
     go_region_o
     all_goals (go_wp2; go_ret; exact ⟨rfl,.inr ⟨_,rfl⟩⟩)
   · have c1:w.drew.cell? ⟨b,1,none⟩=some (.slice (some ⟨g,0,none⟩) 0 cap):=by
       have:w.drew.heap[b]? = some (.cells #[p,.slice (some ⟨g,0,none⟩) 0 cap] (ρ.t 72) (0,0)):=hbk
       rw [Lib.cell_of_heap this]; rfl
     have hSD:(Builtin.unsafeSliceData_ #[(ρ.t 37)] (ρ.t 127) #[.slice (some ⟨g,0,none⟩) 0 cap]).run P w.drew=.ok (.pointer (some ⟨g,0,none⟩)) w.drew :=
       Lib.run_unsafeSliceData_row _ _ _ _ _ _ hc0
     clear hc0
     go_enter L.f169,Body.n169_ntmps ρ
     go_wp2
     go_region_o
     all_goals (go_wp2; go_ret; exact ⟨rfl,.inl rfl⟩)
variable [Mo]
theorem AK.Zg {G:BA} {B:BB} {w w':World} {F:Nat->Prop} {loc:Nat->Option Loc} {s:AE} (hS:AK G B w F loc s) {o:Nat} {l:Loc} {x:O} (ho:loc o=some l) (hot:∀ k,k < w.heap.size->l.block ≠ some k->w'.heap[k]? = w.heap[k]?)
   (hsz:w.heap.size<=w'.heap.size) (hos:w'.os=w.os) (htp:w'.tape=w.tape) (hout:w'.output=w.output) (hdr:w.drawn<=w'.drawn) (hx:BZ w' F loc (some x) l) (hmi:∀ m,s o ≠ some (some (.mi m))) :
   AK G B w' F loc (Ae s o (some (some x)))/\Kept w F w' F:=by
 have hk:Kept w F w' F:=fun k hF=>⟨hF,hot k (hS.BF k hF).1 (fun e=>(hS.own o l k ho e).2.1 hF)⟩
 refine ⟨⟨?_,?_,hS.inj,?_,?_,hS.RF,hos.trans hS.os,htp.trans hS.tape,hout.trans hS.output,Nat.le_trans hS.size hsz,?_,hS.QB,?_,fun h=>Nat.le_trans (hS.Pv h) hdr⟩,hk⟩
 · intro o' obj h'
   by_cases hod:o' = o
   · subst hod; rw [AA] at h'; cases h'; exact ⟨l,ho,hx⟩
   · rw [AJ _ _ hod] at h'
     obtain ⟨l', hl', hr⟩:=hS.Cg o' obj h'
     exact ⟨l', hl', hr.mono hk (Ak.refl _) (fun b' hb'=>hot b' (hS.own o' l' b' hl' hb').1 (fun e=>hod (hS.inj o' o l' l b' hl' ho hb' e))) fun c _ _ _ _ ⟨i,hi⟩ hc=>hot c (hS.own i _ c hi rfl).1 fun e=>by
       obtain ⟨m,hm⟩:=hS.NF ho e hc
       exact hmi m hm⟩
 · intro o' l' hl'
   by_cases hod:o' = o
   · subst hod; exact ⟨_,AA _ _ _⟩
   · rw [AJ _ _ hod]; exact hS.Fp o' l' hl'
 · intro o' l' b' h1 h2
   have:=hS.own o' l' b' h1 h2
   exact ⟨Nat.lt_of_lt_of_le this.1 hsz,this.2⟩
 · intro b' hb'
   have:=hS.BF b' hb'
   exact ⟨Nat.lt_of_lt_of_le this.1 hsz,this.2⟩
 · intro b' hb' hx'
   rw [hot b' (Nat.lt_of_lt_of_le hb' hS.size) ?_]
   · exact hS.keep b' hb' hx'
   · intro e
     rcases (hS.own o l b' ho e).2.2 with h | h
     · exact hx' h
     · omega
 · intro g cells hg
   obtain ⟨hF,val,hc,hr⟩:=hS.FE g cells hg
   exact ⟨hF,val,fun j hj=>(BD (w:=w) (hk g hF).2).trans (hc j hj),fun j x hj=>(hr j x hj).mono hk⟩
def Jf (tb e:TypeId)(xs:List Int):XS:=[(1000000,some (.bx tb [.sp 1000000,.sl .u 1000001])),(1000001,some (.ar e AU xs))]
theorem WB {tb e:TypeId} (htb:Nat.blt tb 3000000=true) {xs:List Int} {B:BB} {w:World} {F:Nat->Prop} {loc:Nat->Option Loc} (hS:AK AM B w F loc (encS (Jf tb e xs))) :
   ∃ b g cap p cells,loc 1000000=some (.Bo b)/\loc 1000001=some (.arr g xs.length cap 1)/\w.heap[b]? = some (.cells #[p,.slice (g.map fun g=>⟨g,0,none⟩) xs.length cap] tb (0,0))/\(p=.pointer none\/p=.pointer (some ⟨b,0,none⟩)) /\
     World.DG w e 1 (.slice (g.map fun b=>⟨b,0,none⟩) xs.length cap) xs.length cells/\(g=none->xs.length=0/\cap=0)/\cells=xs.map fun n=>Value.int .u8 n:=by
 have h0:encS (Jf tb e xs) 1000000=some (some (.bx tb [.sp 1000000,.sl .u 1000001])):=rfl
 have h1:encS (Jf tb e xs) 1000001=some (some (.ar e 1 (xs.map AU.en))):=rfl
 obtain ⟨b,cs,hlb,hb,hl,hr⟩:=hS.var (o:=1000000) (by unfold Mc.get; rw [h0]) htb
 obtain ⟨g,cap,cells,hlg,_,hrl,hown,hone,hrow⟩:=hS.row (o:=1000001) (by unfold Mc.get; rw [h1])
 have hml:(xs.map AU.en).length=xs.length:=List.length_map _
 rw [hml] at hlg hown
 obtain ⟨p,hp,_,rp⟩:=hr 0 _ rfl
 obtain ⟨v,hv,_,rv⟩:=hr 1 _ rfl
 obtain ⟨hv', _,_,hn0⟩:=CY rv hlg
 refine ⟨b,g,cap,p,cells,hlb,hlg,?_,?_,hown,hn0,?_⟩
 · rw [hb]
   congr 2
   apply Array.ext'
   have hl2:cs.toList.length=2:=by rw [Array.length_toList]; exact hl.symm
   rw [<- Array.getElem?_toList] at hp hv
   match h:cs.toList,hl2,hp,hv with
   | [a,c],_,hp,hv =>
     cases hp; cases hv
     rw [hv']
 · cases rp with
   | gone _ o' _ hx ho=>cases hx; rw [hlb] at ho; cases ho
   | sp _ b' ho=>rw [hlb] at ho; cases ho; exact .inr rfl
   | WJ _=>exact .inl rfl
 · apply List.ext_getElem?
   intro i
   have hcl:cells.length=xs.length:=by have:=Bs hown; omega
   by_cases hi:i < xs.length
   · obtain ⟨u,hu,hrel⟩:=hrow i [.sc (.int .u8 xs[i])] (by
       have e:(xs.map fun n:Int=>[T.sc (.int .u8 n)])[i]? = some [T.sc (.int .u8 xs[i])]:=by rw [List.getElem?_map,List.getElem?_eq_getElem hi]; rfl
       exact e) 0 (.sc (.int .u8 xs[i])) rfl
     rw [Nat.mul_one,Nat.add_zero] at hu
     rw [hu,List.getElem?_map,List.getElem?_eq_getElem hi]
     cases hrel; rfl
   · rw [List.getElem?_eq_none (by omega),List.getElem?_eq_none (by rw [List.length_map]; omega)]
theorem LL.TC {f:FuncId} {tb:TypeId}
   (hfresh:∀ b w,w.cell? ⟨b,0,none⟩=some (.pointer none)->w.shape? b=some (tb,2)->w.frozen? ⟨b,0,none⟩=false->Calls P f #[.pointer (some ⟨b,0,none⟩)] w fun e w'=>e=.returned (.tuple #[])/\w' = w.setCell ⟨b,0,none⟩ (.pointer (some ⟨b,0,none⟩)))
   (hused:∀ b w,w.cell? ⟨b,0,none⟩=some (.pointer (some ⟨b,0,none⟩))->Calls P f #[.pointer (some ⟨b,0,none⟩)] w fun e w'=>e=.returned (.tuple #[])/\w' = w)
   (htb:Nat.blt tb 3000000=true) (e:TypeId) (xs:List Int):LL P f [.pt 1000000 0] (Jf tb e xs) (.tp []) (Jf tb e xs):=by
 intro F loc w args hn hS hA
 obtain ⟨b,g,cap,p,cells,hlb,hlg,hb,hp,hown,hn0,hcells⟩:=WB htb hS
 obtain ⟨v0,hv0,r0⟩:=hA.2 0 _ rfl
 have hv0':=Ec r0 hlb
 have hargs:args=[.pointer (some ⟨b,0,none⟩)]:=by
   have hlen:=hA.1
   match args,hlen,hv0 with
   | [a],_,hv0=>cases hv0; rw [hv0']
 subst hargs
 have hu:∀ w', AF w' F loc vU (.tuple #[]):=fun w'=>.tp [] [] (fun _=>.nilIface) rfl (fun j hj=>absurd hj (by simp)) (fun j x hj=>by simp at hj)
 rcases hp with rfl | rfl
 · refine (hfresh b w (by rw [Lib.cell_of_heap hb]; rfl) (by simp [World.shape?,hb]) (by simp [World.frozen?,hb])).mono ?_
   rintro e' w' ⟨rfl,rfl⟩
   have h0:encS (Jf tb e xs) 1000000=some (some (.bx tb [.sp 1000000,.sl .u 1000001])):=rfl
   obtain ⟨b', cs,hlb', hb', hl,hr⟩:=hS.var (o:=1000000) (by unfold Mc.get; rw [h0]) htb
   rw [hlb] at hlb'; cases hlb'
   have hot:∀ k,k ≠ b->(w.setCell ⟨b,0,none⟩ (.pointer (some ⟨b,0,none⟩))).heap[k]? = w.heap[k]? := fun k hk=>by
     simp only [World.setCell,Array.getElem?_modify]
     rw [if_neg (Ne.symm hk)]
   have hnew:(w.setCell ⟨b,0,none⟩ (.pointer (some ⟨b,0,none⟩))).heap[b]? = some (.cells #[.pointer (some ⟨b,0,none⟩),.slice (g.map fun g=>⟨g,0,none⟩) xs.length cap] tb (0,0)):=by
     simp only [World.setCell,Array.getElem?_modify,if_true,hb,Option.map_some]
     rfl
   have hbn:=hS.own 1000000 _ b hlb rfl
   have hk:Kept w F (w.setCell ⟨b,0,none⟩ (.pointer (some ⟨b,0,none⟩))) F:=fun k hF=>⟨hF,hot k (fun e=>hbn.2.1 (e ▸ hF))⟩
   obtain ⟨h1,_⟩:=hS.turn (w':=w.setCell ⟨b,0,none⟩ (.pointer (some ⟨b,0,none⟩))) (x:=.bx tb [.sp 1000000,.sl .u 1000001]) hlb rfl (by simp [World.setCell]) rfl rfl rfl hot
     (.bx _ _ _ b htb hnew rfl fun j x hj=>by
       match j,hj with
       | 0,hj=>cases hj; exact ⟨_,rfl,rfl,.sp _ b hlb⟩
       | 1,hj =>
         cases hj
         obtain ⟨v,hv,h1c,rv⟩:=hr 1 _ rfl
         rw [hb] at hb'
         cases hb'
         cases hv
         exact ⟨_,rfl,h1c,rv.mono hk (Ak.refl _)⟩
       | j+2,hj=>simp at hj) (fun m h=>by rw [h0] at h; cases h)
   have hst:Ae (encS (Jf tb e xs)) 1000000 (some (some (.bx tb [.sp 1000000,.sl .u 1000001])))=encS (Jf tb e xs):=by
     funext k
     by_cases hk:k=1000000
     · subst hk; rw [AA]; rfl
     · rw [AJ _ _ hk]
   rw [hst] at h1
   exact ⟨_,F,loc,vU,_,rfl,h1,hu _,rfl,rfl⟩
 · refine (hused b w (by rw [Lib.cell_of_heap hb]; rfl)).mono ?_
   rintro e' w' ⟨rfl,rfl⟩
   exact ⟨_,F,loc,vU,_,rfl,hS,hu _,rfl,rfl⟩
def ME (xs:List Int):Bool:=xs.all fun n=>decide (0<=n) && decide (n < 256)
omit [Mo] in
theorem OL {xs:List Int}(h:ME xs=true):(xs.map fun n=>Value.int .u8 n)=Lib.byteCells (xs.map fun n=>UInt8.ofNat n.toNat):=by
 unfold Lib.byteCells
 rw [List.map_map]
 refine List.map_congr_left fun n hn=>?_
 have:=List.all_eq_true.1 h n hn
 simp only [Bool.and_eq_true,decide_eq_true_eq] at this
 simp only [Function.comp_apply,UInt8.toNat_ofNat']
 congr 1
 omega
def Zj (tb e:TypeId)(xs:List Int):XS:=[(1000001,some (.ar e AU xs)),(1000000,some (.bx tb [.sp 1000000,.sl .u 1000001]))]
omit [Mo] in
theorem cn (n5 m:Nat)(fr:Nat × Nat)(h:n5 < 1000000):marked (n5+2000000) m n5 fr:=.inr ⟨by omega,by omega,fun h'=>absurd h' (by omega)⟩
theorem LL.Qc (L:Lays.n169 P ρ) (X:Builder.Extra P ρ) {e:TypeId} (he:e=ρ.t 5\/e=ρ.t 5+2000000) (h5:ρ.t 5 < 1000000) (htb:Nat.blt (ρ.t 72) 3000000=true) {xs:List Int} (hby:ME xs=true):LL P (ρ.f 169) [.pt 1000000 0] (Jf (ρ.t 72) e xs) (.s (strOfNums xs)) (Zj (ρ.t 72) (ρ.t 5+2000000) xs):=by
 intro F loc w args hn hS hA
 obtain ⟨b,g,cap,p,cells,hlb,hlg,hb,hp,hown,hn0,hcells⟩:=WB htb hS
 obtain ⟨v0,hv0,r0⟩:=hA.2 0 _ rfl
 have hv0':=Ec r0 hlb
 have hargs:args=[.pointer (some ⟨b,0,none⟩)]:=by
   have hlen:=hA.1
   match args,hlen,hv0 with
   | [a],_,hv0=>cases hv0; rw [hv0']
 subst hargs
 have hbuf:∀ g0,g=some g0->∃ cur fr,w.heap[g0]? = some (.cells cur (ρ.t 5) fr)/\xs.length<=cap/\cap<=maxLen/\cur.size=cap * 1/\cur.toList.take (xs.length * 1)=cells:=by
   rintro g0 rfl
   rcases CV hown with ⟨h,_⟩ | ⟨g', cap', cur,te,fr,hv,h2,hm,h3,h4,h5', h6⟩
   · cases h
   · cases hv
     have key:∀ (e te n5:Nat),(e=n5\/e=n5+2000000)->n5 < 1000000->((te=e/\e < 1000000)\/(1000000<=e/\te=e % 1000000))->te=n5:=by
       intro e te n5 h1 h2 h3
       rcases h1 with h1 | h1 <;> rcases h3 with ⟨h3,h4⟩ | ⟨h3,h4⟩ <;> omega
     have hte:te=ρ.t 5:=key e te (ρ.t 5) he h5 (hm.imp (fun h=>⟨h.1,h.2.2⟩) (fun h=>⟨h.1,h.2.1⟩))
     subst hte
     exact ⟨cur,fr,h2,h3,h4,h5', h6⟩
 have h0c:encS (Jf (ρ.t 72) e xs) 1000001=some (some (.ar e 1 (xs.map AU.en))):=rfl
 obtain ⟨g', cap'', cells', hlg', _,hrl,_,hone,hrow⟩:=hS.row (o:=1000001) (by unfold Mc.get; rw [h0c])
 rw [hlg] at hlg'
 have hml:(xs.map AU.en).length=xs.length:=List.length_map _
 have done:∀ w', (∀ k,k < w.heap.size->g ≠ some k->w'.heap[k]? = w.heap[k]?)->(∀ g0 cur fr,g=some g0->w.heap[g0]? = some (.cells cur (ρ.t 5) fr)->∃ aC,w'.heap[g0]? = some (.cells cur (ρ.t 5) aC))->w.heap.size<=w'.heap.size->w'.os=w.os->w'.tape=w.tape->w'.output=w.output->w.drawn<=w'.drawn ->
     ∃ v F' loc' r s', Ending.returned (.string (strOfNums xs))=.returned v/\AK AM (DT loc w F hn) w' F' loc' s' /\ AF w' F' loc' r v/\r=(Mc.X.s (strOfNums xs)).enc/\s' = encS (Zj (ρ.t 72) (ρ.t 5+2000000) xs):=by
   intro w' hot hgw hsz hos htp hout hdr
   have hk:Kept w F w' F:=fun k hF=>⟨hF,hot k (hS.BF k hF).1 (fun e'=>(hS.own 1000001 _ k hlg e').2.1 hF)⟩
   have hx:BZ w' F loc (some (.ar (ρ.t 5+2000000) 1 (xs.map AU.en))) (.arr g xs.length cap 1):=by
     have hr':∀ (i:Nat) (r:List T),(xs.map AU.en)[i]? = some r->∀ (j:Nat) (x:T),r[j]? = some x->∃ v,cells[i * 1+j]? = some v/\BG w' F x v:=by
       intro i r hi j x hj
       have hi':(xs.map fun n:Int=>[T.sc (.int .u8 n)])[i]? = some r:=hi
       rw [List.getElem?_map,Option.map_eq_some_iff] at hi'
       obtain ⟨n,hn', rfl⟩:=hi'
       cases j with
       | zero =>
         cases hj
         exact ⟨.int .u8 n,by rw [hcells,Nat.mul_one,Nat.add_zero,List.getElem?_map,hn']; rfl,.sc _ rfl⟩
       | succ j=>simp at hj
     have h1':∀ u ∈ cells,u.oneCell' = true:=by
       intro u hu
       rw [hcells] at hu
       obtain ⟨n,_,rfl⟩:=List.mem_map.1 hu
       rfl
     have:=BZ.ar (w:=w') (F:=F) (loc:=loc) (ρ.t 5+2000000) 1 (xs.map AU.en) g cap cells (by decide) hrl (by
       rw [hml]
       cases hgg:g with
       | none =>
         obtain ⟨h1,h2⟩:=hn0 hgg
         have hc0:cells=[]:=List.eq_nil_of_length_eq_zero (by have:=Bs hown; omega)
         rw [h1,h2,hc0]
         exact MN w' _ 1
       | some g0 =>
         obtain ⟨cur,fr,k1,k2,k3,k4,k5⟩:=hbuf g0 hgg
         obtain ⟨aC,k6⟩:=hgw g0 cur fr hgg k1
         exact FJ (by have:=Bs hown; omega) k6 (cn (ρ.t 5) _ aC h5) k2 k3 k4 k5) h1' hr'
     rw [hml] at this
     exact this
   obtain ⟨h1,_⟩:=hS.Zg (o:=1000001) (w':=w') (x:=.ar (ρ.t 5+2000000) 1 (xs.map AU.en)) hlg (fun k hk1 hk2=>hot k hk1 hk2) hsz hos htp hout hdr hx (fun m h=>by rw [h0c] at h; cases h)
   refine ⟨_,F,_,_,_,rfl,h1,.t _ _ (.sc _ rfl),rfl,?_⟩
   funext k
   by_cases hk1:k=1000001
   · subst hk1; rw [AA]; rfl
   · rw [AJ _ _ hk1]
     have b1:Nat.beq 1000001 k=false:=by rw [<- Bool.not_eq_true,Nat.beq_eq]; exact Ne.symm hk1
     simp only [Zj,Jf,encS,lk,b1,cond_false]
 by_cases h0:xs=[]
 · subst h0
   refine (KZ L X b g cap p w hb (fun g0 hg0=>?_) (fun h=>(hn0 h).2)).mono ?_
   · obtain ⟨cur,fr,k1,_⟩:=hbuf g0 hg0
     exact ⟨cur,fr,k1⟩
   · rintro e' w' ⟨rfl,h | ⟨o,h⟩⟩
     · subst h
       exact done w.drew (fun _ _ _=>rfl) (fun g0 cur fr _ h=>⟨fr,h⟩) (Nat.le_refl _) rfl rfl rfl (Nat.le_succ _)
     · subst h
       exact done (w.alloc o).drew (fun k hk _=>heap_alloc_old w o hk) (fun g0 cur fr hg0 h=>⟨fr,(heap_alloc_old w o (by
         rcases Nat.lt_or_ge g0 w.heap.size with h' | h'
         · exact h'
         · simp [Array.getElem?_eq_none h'] at h)).trans h⟩) (by simp) rfl rfl rfl (Nat.le_succ _)
 · have hlen0:0 < xs.length:=List.length_pos_iff.2 h0
   obtain ⟨g0,rfl⟩:∃ g0,g=some g0:=by
     cases g with
     | none=>have:=(hn0 rfl).1; omega
     | some g0=>exact ⟨g0,rfl⟩
   obtain ⟨cur,fr,hg,hnc,hcm,hcs,htake⟩:=hbuf g0 rfl
   have hll:(xs.map fun n=>UInt8.ofNat n.toNat).length=xs.length:=List.length_map _
   refine (LQ L X b g0 cap p cur fr (xs.map fun n=>UInt8.ofNat n.toNat) w (by rw [hll]; exact hb) hg (by rw [hll]; exact hnc) hcm (by omega) (by rw [hll,<- OL hby,<- hcells,<- htake,Nat.mul_one]) (by simpa using h0)).mono ?_
   rintro e' w' ⟨rfl,rfl⟩
   have hne:xs.length ≠ 0:=by omega
   have hfr:∀ k,k ≠ g0->(w.drew.freeze ⟨g0,0,none⟩ xs.length).heap[k]? = w.heap[k]? := by
     intro k hk
     unfold World.freeze
     rw [if_neg hne]
     simp only [Array.getElem?_modify]
     rw [if_neg (Ne.symm hk)]
     rfl
   rw [hll]
   refine done _ (fun k _ hk=>hfr k (fun e=>hk (by rw [e]))) (fun g1 cur1 fr1 hg1 h=>?_) ?_ ?_ ?_ ?_ ?_
   · cases hg1
     refine ⟨if fr1.1 == fr1.2 then (0,0+xs.length) else (min fr1.1 0,max fr1.2 (0+xs.length)),?_⟩
     unfold World.freeze
     rw [if_neg hne]
     simp only [Array.getElem?_modify,if_true]
     have h':w.drew.heap[g0]? = some (.cells cur1 (ρ.t 5) fr1):=h
     rw [h']; rfl
   all_goals (unfold World.freeze; rw [if_neg hne]; first | rfl | exact Nat.le_succ _ | simp)
end Go.Proofs.YtobfoiomjfdjjaaDoor.Mc
namespace Go.Proofs.YtobfoiomjfdjjaaDoor.Mc
open Go.RowKit Go.Sort
variable {P:Program}
variable [Mo]
end Go.Proofs.YtobfoiomjfdjjaaDoor.Mc
namespace Go.Proofs.YtobfoiomjfdjjaaDoor.Mc
open Go.RowKit Go.Sort
variable {P:Program}
variable [Mo]
def XP {α:Type}(cmp:α->α->Option Int)(x y:α):Bool:=match cmp x y with | some n=>decide (n < 0) | none=>false
structure eb {α:Type}(cmp:α->α->Option Int)(xs:List α):Prop where
 some:∀ a ∈ xs,∀ b ∈ xs,∃ n,cmp a b=some n
 irrefl:∀ a ∈ xs,XP cmp a a=false
 trans:∀ a ∈ xs,∀ b ∈ xs,∀ c ∈ xs,XP cmp a b=true->XP cmp b c=true->XP cmp a c=true
 ntrans:∀ a ∈ xs,∀ b ∈ xs,∀ c ∈ xs,XP cmp a b=false->XP cmp b c=false->XP cmp a c=false
 apart:xs.Pairwise fun a b=>XP cmp a b=true\/XP cmp b a=true
 size:xs.length < 4611686018427387904
end Go.Proofs.YtobfoiomjfdjjaaDoor.Mc

/- The machine: abstract values and stores, and the laws by which a walk goes through code. Its parts in order. -/
import Derived.Test.YthoimblkpcikdaaGreatDoorMc3
import Derived.Shelf.Unicode.DecodeSlow
import Derived.Below
import Derived.Lib.LaidU8
import Derived.Shelf.SlSortCmp.NoneTotal
import Derived.Shelf.Strings.Builder1
import Derived.Shelf.Slices.In.SortAlone
import Derived.Shelf.Slices.In.SortNone
set_option linter.unusedVariables false
set_option linter.unusedSimpArgs false
set_option linter.constructorNameAsVariable false
namespace Go.Proofs.YthoimblkpcikdaaGreatDoor.Mc
open Go.RowKit
variable [Mo]
set_option linter.constructorNameAsVariable false
variable {P:Program}{D:Au}
omit [Mo] in
theorem OL {E:XE} {st:BC} {d:Nat} {x y:X} (h:Xn E st d=x) (hxy:y.enc=x.enc):AG E ⟨(d,y) :: st.t,st.s⟩=AG E st:=by
 have:Ci ((d,y) :: st.t ++ E.t)=Ci (st.t ++ E.t):=by
   rw [List.cons_append,JJ]
   funext i
   by_cases hi:i=d
   · subst hi
     rw [AA,hxy,<- h]
     exact (LK E st i).symm
   · rw [AH _ _ hi]
 unfold AG
 simp only [this]
def Xr {R:Type}(ops:Array Oper)(E:XE)(o:Oper)(st:BC)(kk:BC->Option R):Option R :=
 match TF ops E o st,eP E o.dst with
 | some false,true=>kk (HX st o.dst (.tp []) [])
 | _,_=>none
def PT {R:Type} (ops:Array Oper) (E:XE) (o:Oper) (st:BC) (run skip:BC->Option R):Option R :=
 match o.guard with
 | none=>run st
 | some (j,w)=>match (ops[j]?).bind (·.dst) with
   | none=>none
   | some d=>match Xn E st d with
     | .b q=>cond q (cond w (run ⟨(d,.b true) :: st.t,st.s⟩) (skip ⟨(d,.b true) :: st.t,st.s⟩)) (cond w (skip ⟨(d,.b false) :: st.t,st.s⟩) (run ⟨(d,.b false) :: st.t,st.s⟩))
     | .tp []=>skip st
     | _=>none
omit [Mo] in
theorem Lo {R:Type} {ops:Array Oper} {E:XE} {o:Oper} {st:BC} {run skip:BC->Option R} {r:R} (h:PT ops E o st run skip=some r) :
   ∃ st', AG E st' = AG E st/\(run st' = some r\/skip st' = some r):=by
 unfold PT at h
 split at h
 · exact ⟨st,rfl,.inl h⟩
 · rename_i j w _
   split at h
   · cases h
   · rename_i d _
     split at h
     · rename_i q hq
       cases q with
       | true =>
         refine ⟨_,OL hq rfl,?_⟩
         cases w
         · exact .inr h
         · exact .inl h
       | false =>
         refine ⟨_,OL hq rfl,?_⟩
         cases w
         · exact .inl h
         · exact .inr h
     · exact ⟨st,rfl,.inr h⟩
     · cases h
def fV (i:Nat):List (Nat × Nat)->List Nat
 | []=>[]
 | p :: l=>cond (Nat.beq p.1 i) (p.2 :: fV i l) (fV i l)
noncomputable def LJ {R:Type}(D:Au)(rows:Nat->Option Row)(Γ : List (Ao P))(ops:Array Oper)(E:XE)(fz:List (Nat × Nat)):Nat->List Oper->BC->(BC->Option R)->Option R
 | _,[],st,K=>K st
 | i,o :: l,st,K=>PT ops E o st (fun st'=>match EE E (fV i fz) st' with
   | some st1=>OR D rows Γ ops E 9 o st1 fun st2=>LJ D rows Γ ops E fz (i+1) l st2 K
   | none=>none) (fun st'=>Xr ops E o st' fun st2=>LJ D rows Γ ops E fz (i+1) l st2 K)
theorem Qv {R:Type}{ops:Array Oper}{E:XE}{o:Oper}{l:List Oper}{st:BC}{kk:BC->Option R}{Q:Exit->St->Prop}{r:R}(h:Xr ops E o st kk=some r)
   (hk:∀ st', kk st' = some r->BA P AV ops l (AG E st') Q):BA P AV ops (o :: l) (AG E st) Q:=by
 unfold Xr at h
 split at h
 · rename_i hw hf
   refine BA.cM (Fa hw) hf ?_
   have:=Bs E st o.dst (.tp []) []
   simp only [over] at this
   have e:(X.tp []).enc=vU:=rfl
   rw [e] at this
   rw [<- this]; exact hk _ h
 · cases h
theorem EZ (hg:Good P D) {R:Type} {rows:Nat->Option Row} {Γ : List (Ao P)} {ops:Array Oper} {E:XE} {fz:List (Nat × Nat)} {Q:Exit->St->Prop} {r:R}:∀ (l:List Oper) (i:Nat) (st:BC) (K:BC->Option R),LJ D rows Γ ops E fz i l st K=some r ->
   (∀ st', K st' = some r->Q .normal (AG E st'))->BA P AV ops l (AG E st) Q
 | [],i,st,K,h,hk=>BA.nil (hk st h)
 | o :: l,i,st,K,h,hk=>by
   obtain ⟨st', he,h⟩:=Lo h
   rw [<- he]
   rcases h with h | h
   · split at h
     · rename_i st1 hf
       exact BA.conv (Ct hf) (EI hg 9 o st1 _ h fun st2 h2=>EZ hg l (i+1) st2 K h2 hk)
     · cases h
   · exact Qv h fun st2 h2=>EZ hg l (i+1) st2 K h2 hk
mutual
def X.names:X->List Nat
 | .sl _ o=>[o]
 | .sw o _ _=>[o]
 | .pt o _=>[o]
 | .pe o _ _=>[o]
 | .mp o=>[o]
 | .it o=>[o]
 | .sp o=>[o]
 | .fn _ l=>HB l
 | .ag l=>HB l
 | .tp l=>HB l
 | .Aq _ x=>x.names
 | _=>[]
def HB:List X->List Nat
 | []=>[]
 | x :: l=>x.names ++ HB l
end
def bg (l:List Nat):List Nat->List Nat
 | []=>l
 | n :: k=>bg (cond (Br l n) l (l ++ [n])) k
def qm (g:XG)(n:Nat):List Nat:=match gx g n with | some (.bx _ cells)=>HB cells | _=>[]
def reach (g:XG):Nat->List Nat->List Nat
 | 0,l=>l
 | k+1,l=>reach g k (bg l (l.flatMap (qm g)))
def cT (E:XE)(st:BC)(o:Oper):List Nat :=
 match gG o.op with
 | some (fop,args)=>reach (gE E st) 5 (bg [] (HB ((fop :: args).map (Yk E st)))) ++ (List.range 10).map fun j=>400000+Gj o.dst * 100+j
 | none=>match o.op with
   | .move _=>[]
   | .assign _=>[]
   | .pick _ _ _=>[]
   | .extract _ _=>[]
   | .field _ _ _=>[]
   | .unOp _ _ _=>[]
   | .makeFunc _ _ _=>[]
   | .makeInterface _ _=>[]
   | .typeAssert _ _ _ _=>[]
   | _=>bg [Gj o.dst] (HB (o.op.operands.toList.map (Yk E st)))
def gR (ns:List Nat)(g:XG):XG:=fun m=>cond (Br ns m) (g m) (some none)
def RU (g:XG)(f:FuncId)(xs:List X):List (Ao P)->cI P
 | []=>.bad
 | C :: Γ => cond (Nat.beq C.f f) (match GM C g xs with
   | .call y ρ=>.call C y ρ
   | _=>RU g f xs Γ) (RU g f xs Γ)
theorem HG {g:XG} {f:FuncId} {xs:List X}:∀ {Γ : List (Ao P)} {C:Ao P} {y:Tup C.h} {ρ:Ren},RU g f xs Γ = .call C y ρ->C.f=f/\GM C g xs=.call y ρ
 | [],C,y,ρ,h=>by cases h
 | C' :: Γ,C,y,ρ,h=>by
   simp only [RU] at h
   cases hc:Nat.beq C'.f f with
   | false=>rw [hc] at h; exact HG h
   | true =>
     rw [hc] at h
     simp only [cond_true] at h
     split at h
     · rename_i y' ρ' hci
       cases h
       exact ⟨Nat.eq_of_beq_eq_true hc,hci⟩
     · exact HG h
def QN {R:Type} (D:Au) (rows:Nat->Option Row) (Γ : List (Ao P)) (ops:Array Oper) (E:XE) (o:Oper) (st:BC) (g:XG) (kk:X->XS->Option R):Option R :=
 match TF ops E o st with
 | some true=>match NV D (Yk E st) o.op with
   | some fx=>match fx with
     | some (f,xs)=>match RU g f xs Γ with
       | .call C y ρ=>(C.F y).bind fun r=>Av (C.R.map (·.h)) r fun i l =>
           cond (Gr g ρ (fresh ρ (Gj o.dst) (EC C.R i).o) C.kp (EC C.R i).o) (kk (Cw (EC C.R i) ρ (Gj o.dst) l).1 (Cw (EC C.R i) ρ (Gj o.dst) l).2) none
       | _=>none
     | none=>none
   | none=>match kg D rows g (Yk E st) o with
     | .ok v u=>kk v u
     | .Ai q v u=>Ai q (kk v u)
     | .Qr _ m f=>m.bind fun a=>kk (f a).1 (f a).2
     | _=>none
 | some false=>kk (.tp []) []
 | none=>none
def QA (P:Program)(ops:Array Oper)(i:Nat)(Gz:St)(ns:List Nat)(v:V)(u:XS):Prop :=
 ∀ st:St,st.n=Gz.n->st.a=Gz.a->(∀ d ∈ Et ops i,st.t d=Gz.t d)->(∀ m ∈ ns,st.s m=Gz.s m)->eo P AV ops (oA ops i) st v (over st.s u)
omit [Mo] in
theorem Le {ops:Array Oper} {i:Nat} (hi:i < ops.size) {st Gz:St} (hn:st.n=Gz.n) (ht:∀ d ∈ Et ops i,st.t d=Gz.t d):want ops (oA ops i) st=want ops (oA ops i) Gz:=by
 have ho:ops[i]? = some ops[i]:=by simp [hi]
 have hoA:oA ops i=ops[i]:=by unfold oA; rw [Array.getElem?_toList,ho]; rfl
 rw [hoA]
 unfold want
 cases hgd:ops[i].guard with
 | none=>rfl
 | some jw =>
   obtain ⟨j,w⟩:=jw
   simp only
   cases hd:(ops[j]?).bind (·.dst) with
   | none=>rfl
   | some d =>
     simp only
     have:d ∈ Et ops i:=by
       unfold Et
       rw [ho]
       unfold Oper.looksAt
       simp [hgd,hd]
     rw [hn,ht d this]
omit [Mo] in
theorem XL {ops:Array Oper} {i:Nat} (hi:i < ops.size) {st Gz:St} (ht:∀ d ∈ Et ops i,st.t d=Gz.t d):∀ x ∈ (oA ops i).op.operands.toList,ev AV st.t x=ev AV Gz.t x:=by
 have ho:ops[i]? = some ops[i]:=by simp [hi]
 have hoA:oA ops i=ops[i]:=by unfold oA; rw [Array.getElem?_toList,ho]; rfl
 intro x hx
 cases x with
 | tmp d =>
   have:d ∈ Et ops i:=by
     unfold Et
     rw [ho]
     unfold Oper.looksAt
     rw [hoA] at hx
     simp only [List.mem_append,List.mem_filterMap]
     exact .inl ⟨_,hx,rfl⟩
   exact ht d this
 | _=>rfl
end Go.Proofs.YthoimblkpcikdaaGreatDoor.Mc
namespace Go.Proofs.YthoimblkpcikdaaGreatDoor.Mc
open Go.RowKit
variable [Mo]
set_option linter.constructorNameAsVariable false
variable {P:Program}{D:Au}
theorem Pu (hg : Good P D) {R:Type} {rows:Nat->Option Row} {Γ : List (Ao P)} {ops:Array Oper} {E:XE} {i:Nat} (hi:i < ops.size) {st:BC} {ns:List Nat} {kk:X->XS->Option R} {r:R}
   (h:QN D rows Γ ops E (oA ops i) st (gR ns (gE E st)) kk=some r):∃ v u,kk v u=some r/\QA P ops i (AG E st) ns v.enc u:=by
 have agree:∀ (st1:St),(∀ m ∈ ns,st1.s m=(AG E st).s m)->Al (gR ns (gE E st)) st1.s:=by
   intro st1 hs
   have h0:=PX E st
   constructor
   · intro o x hx
     unfold gR at hx
     cases hk:Br ns o with
     | false=>rw [hk] at hx; cases hx
     | true =>
       rw [hk] at hx
       rw [hs o (BR.1 hk)]; exact h0.is o x hx
   · intro d hd
     unfold gR at hd
     cases hk:Br ns d with
     | false=>rw [hk] at hd; cases hd
     | true =>
       rw [hk] at hd
       rw [hs d (BR.1 hk)]; exact h0.no d hd
 have evs:∀ (st1:St),(∀ d ∈ Et ops i,st1.t d=(AG E st).t d)->∀ x ∈ (oA ops i).op.operands.toList,ev AV st1.t x=(Yk E st x).enc:=by
   intro st1 ht x hx
   rw [XL hi ht x hx]; exact LM E st x
 unfold QN at h
 split at h
 · rename_i hw
   have hw':=Fa hw
   have wants:∀ (st1:St),st1.n=(AG E st).n->(∀ d ∈ Et ops i,st1.t d=(AG E st).t d)->want ops (oA ops i) st1=some true:=by
     intro st1 hn ht
     rw [Le hi hn ht]; exact hw'
   split at h
   · rename_i fx hco
     split at h
     · rename_i f xs
       split at h
       · rename_i C y ρ hp
         obtain ⟨rfl,hci⟩:=HG hp
         obtain ⟨z,hz,h⟩:=Dk h
         have law:Av (C.R.map (·.h)) z fun i' l=>Gr (gR ns (gE E st)) ρ (fresh ρ (Gj (oA ops i).dst) (EC C.R i').o) C.kp (EC C.R i').o=true ->
             QA P ops i (AG E st) ns (Cw (EC C.R i') ρ (Gj (oA ops i).dst) l).1.enc (Cw (EC C.R i') ρ (Gj (oA ops i).dst) l).2:=by
           have all:∀ (hs:List (List Ah)) (y:Ea hs) {A:Type 0} {p:A->Nat->List HV->Prop},(∀ a,Av hs y (p a))->Av hs y fun i l=>∀ a,p a i l:=by
             intro hs
             induction hs with
             | nil=>exact fun y=>y.elim
             | cons b t ih =>
               cases t with
               | nil=>exact fun y A p h a=>h a
               | cons c t =>
                 intro y
                 cases y with
                 | inl y=>exact fun h a=>h a
                 | inr z=>exact fun {A p} h=>ih z (p:=fun a i l=>p a (i+1) l) h
           have h3:=all _ z (A:={ st1:St // st1.n=(AG E st).n/\st1.a=(AG E st).a/\(∀ d ∈ Et ops i,st1.t d=(AG E st).t d)/\∀ m ∈ ns,st1.s m=(AG E st).s m })
             (p:=fun a i' l=>Gr (gR ns (gE E st)) ρ (fresh ρ (Gj (oA ops i).dst) (EC C.R i').o) C.kp (EC C.R i').o=true->Xj P AV (oA ops i) a.1 (Cw (EC C.R i') ρ (Gj (oA ops i).dst) l).1.enc (over a.1.s (Cw (EC C.R i') ρ (Gj (oA ops i).dst) l).2))
             (fun a=>OM hg (agree a.1 a.2.2.2.2) hco (evs a.1 a.2.2.2.1) hci (Gj (oA ops i).dst) hz)
           refine Jk _ _ ?_ h3
           intro i' l h4 hcb st1 hn ha ht hs
           exact .inl ⟨wants st1 hn ht,h4 ⟨st1,hn,ha,ht,hs⟩ hcb⟩
         obtain ⟨i', l,h1,h2⟩:=JQ _ z h law
         obtain ⟨hcb,h1⟩:=DY (c:=Gr _ _ _ _ _) h1
         exact ⟨_,_,h1,h2 hcb⟩
       · cases h
     · cases h
   · have law:∀ (st1:St),(∀ d ∈ Et ops i,st1.t d=(AG E st).t d)->(∀ m ∈ ns,st1.s m=(AG E st).s m)->BI P (oA ops i) st1 (kg D rows (gR ns (gE E st)) (Yk E st) (oA ops i)) :=
       fun st1 ht hs=>RG hg (agree st1 hs) (evs st1 ht)
     split at h
     · rename_i v u hx
       rw [hx] at law
       exact ⟨v,u,h,fun st1 hn ha ht hs=>.inl ⟨wants st1 hn ht,Ce.w (law st1 ht hs)⟩⟩
     · rename_i q v u hx
       rw [hx] at law
       obtain ⟨hq,h⟩:=DY h
       exact ⟨v,u,h,fun st1 hn ha ht hs=>.inl ⟨wants st1 hn ht,Ce.w (law st1 ht hs hq)⟩⟩
     · rename_i α m f hx
       rw [hx] at law
       obtain ⟨a,ha', h⟩:=Dk h
       exact ⟨_,_,h,fun st1 hn ha ht hs=>.inl ⟨wants st1 hn ht,Ce.w (law st1 ht hs a ha')⟩⟩
     · cases h
 · rename_i hw
   have hw':=Fa hw
   refine ⟨.tp [],[],h,fun st1 hn ha ht hs=>.inr ⟨?_,rfl,rfl⟩⟩
   rw [Le hi hn ht]; exact hw'
 · cases h
structure TE where
 v:X
 u:XS
 ns:List Nat
def DD (tr:List TE):List V:=tr.map fun e=>e.v.enc
def Fh (tr:List TE)(j:Nat):XS:=match tr[j]? with | some e=>e.u | none=>[]
def Rv (tr:List TE)(j:Nat):List Nat:=match tr[j]? with | some e=>e.ns | none=>[]
def lO (masks:List Nat)(i j:Nat):Bool:=Nat.testBit (masks.getD i 0) j || Nat.testBit (masks.getD j 0) i
def Yb (masks:List Nat)(tr:List TE):Bool :=
 (List.range tr.length).all fun j=>cond (Fh tr j).isEmpty true ((List.range tr.length).all fun i=>Nat.beq i j || lO masks i j || (Fh tr j).all fun p => !(Br (Rv tr i) p.1) && !(Br ((Fh tr i).map (·.1)) p.1))
def Ws (ops:Array Oper)(i:Nat):List Nat:=match ops[i]? with | some o=>(o.after.toList.filter (Region.binds .any)).map (·.on) | none=>[]
def Za (ops:Array Oper)(masks:List Nat):Bool :=
 (List.range ops.size).all fun i=>Nat.beq ((Ws ops i).foldl (fun m j=>m ||| ((1 <<< j) ||| masks.getD j 0)) 0) (masks.getD i 0)
def preB (ops:Array Oper)(n:Nat)(masks:List Nat):Bool :=
 (rq ops).all (fun d=>Nat.blt d n) && (List.range ops.size).all (fun j=>match ops[j]? with | some o=>(match o.dst with | some d=>(match OS ops d with | some i=>Nat.beq i j | none=>false) | none=>true) | none=>true)
 && (List.range ops.size).all (fun i=>(Et ops i).all fun d=>match OS ops d with | some j=>Br (Ws ops i) j || Br (Ws ops j) i || Nat.beq i j | none=>true)
 && (List.range ops.size).all (fun i=>(Ws ops i).all fun j=>Nat.blt j i) && Za ops masks
omit [Mo] in
theorem GU {ops:Array Oper} {i j:Nat}:depOn ops i j=true ↔ j ∈ Ws ops i:=by
 unfold depOn Ws
 cases ops[i]? with
 | none=>simp
 | some o =>
   simp only [List.mem_map,List.mem_filter]
   rw [Array.any_eq_true']
   constructor
   · rintro ⟨e,he,hb⟩
     simp only [Bool.and_eq_true] at hb
     exact ⟨e,⟨by simpa using he,hb.1⟩,Nat.eq_of_beq_eq_true hb.2⟩
   · rintro ⟨e,⟨he,hb⟩,rfl⟩
     exact ⟨e,by simpa using he,by rw [hb]; simp⟩
omit [Mo] in
theorem Sb {f:Nat->Nat} {b:Nat}:∀ (l:List Nat) (m:Nat),Nat.testBit (l.foldl (fun m j=>m ||| ((1 <<< j) ||| f j)) m) b=true->Nat.testBit m b=true\/∃ j ∈ l,j=b\/Nat.testBit (f j) b=true
 | [],m,h=>.inl h
 | j :: l,m,h=>by
   rcases Sb l _ h with h1 | ⟨k,hk,h1⟩
   · simp only [Nat.testBit_or,Bool.or_eq_true] at h1
     rcases h1 with h1 | h1 | h1
     · exact .inl h1
     · refine .inr ⟨j,by simp,.inl ?_⟩
       rw [Nat.one_shiftLeft,Nat.testBit_two_pow] at h1
       exact of_decide_eq_true h1
     · exact .inr ⟨j,by simp,.inr h1⟩
   · exact .inr ⟨k,by simp [hk],h1⟩
omit [Mo] in
theorem Rl {ops:Array Oper} {masks:List Nat} (h:Za ops masks=true) (hlow:∀ i j,depOn ops i j=true->j < i):∀ (i:Nat),i < ops.size->∀ j,Nat.testBit (masks.getD i 0) j=true->Way ops i j:=by
 intro i
 induction i using Nat.strongRecOn with
 | _ i ih =>
   intro hi j hb
   have:=List.all_eq_true.1 h i (List.mem_range.2 hi)
   rw [<- Nat.eq_of_beq_eq_true this] at hb
   rcases Sb _ _ hb with h1 | ⟨k,hk,h1⟩
   · simp at h1
   · have hd:depOn ops i k=true:=GU.2 hk
     rcases h1 with rfl | h1
     · exact .one hd
     · exact .step hd (ih k (hlow _ _ hd) (Nat.lt_trans (hlow _ _ hd) hi) j h1)
structure na (ops:Array Oper)(n:Nat)(masks:List Nat):Prop where
 fit:∀ (i:Nat) (o:Oper) (d:Nat),ops[i]? = some o->o.dst=some d->d < n
 uniq:∀ (i:Nat) (o:Oper) (d:Nat),ops[i]? = some o->o.dst=some d->OS ops d=some i
 reads:∀ i,i < ops.size->∀ d ∈ Et ops i,∀ j,OS ops d=some j->depOn ops i j=true\/depOn ops j i=true\/i=j
 low:∀ i j,depOn ops i j=true->j < i
 mask:Za ops masks=true
omit [Mo] in
theorem im {ops:Array Oper}{n:Nat}{masks:List Nat}(h:preB ops n masks=true):na ops n masks:=by
 simp only [preB,Bool.and_eq_true] at h
 obtain ⟨⟨⟨⟨h1,h2⟩,h3⟩,h4⟩,h5⟩:=h
 refine ⟨?_,?_,?_,?_,h5⟩
 · intro i o d ho hd
   have:=List.all_eq_true.1 h1 d (List.mem_filterMap.2 ⟨o,by rw [<- Array.getElem?_toList] at ho; exact List.mem_of_getElem? ho,hd⟩)
   simpa using this
 · intro i o d ho hd
   have hi:=(Array.getElem?_eq_some_iff.1 ho).1
   have:=List.all_eq_true.1 h2 i (List.mem_range.2 hi)
   simp only [ho,hd] at this
   split at this
   · rename_i j hj; rw [hj,Nat.eq_of_beq_eq_true this]
   · cases this
 · intro i hi d hd j hj
   have:=List.all_eq_true.1 (List.all_eq_true.1 h3 i (List.mem_range.2 hi)) d hd
   simp only [hj,Bool.or_eq_true] at this
   rcases this with (h | h) | h
   · exact .inl (GU.2 (BR.1 h))
   · exact .inr (.inl (GU.2 (BR.1 h)))
   · exact .inr (.inr (Nat.eq_of_beq_eq_true h))
 · intro i j hd
   have hi:=YY hd
   have:=List.all_eq_true.1 (List.all_eq_true.1 h4 i (List.mem_range.2 hi)) j (GU.1 hd)
   simpa using this
structure Path (P:Program)(ops:Array Oper)(E:XE)(t0:Nat->V)(s0:AB)(k:Nat)(st:BC)(tr:List TE):Prop where
 len:tr.length=k
 t:(AG E st).t=tL ops t0 (DD tr) (Bv k)
 s:(AG E st).s=over s0 (acc (Fh tr) (Bv k) k)
 law:∀ i,i < k->QA P ops i ⟨tL ops t0 (DD tr) (Bv i),over s0 (acc (Fh tr) (Bv i) i),E.n,E.a⟩ (Rv tr i) (Vn (DD tr) i) (Fh tr i)
omit [Mo] in
theorem Jm {us us':Nat->XS}{f g:Nat->Bool}:∀ (k:Nat),(∀ j,j < k->f j=g j/\us j=us' j)->acc us f k=acc us' g k
 | 0,_=>rfl
 | k+1,h=>by
   simp only [acc,(h k (by omega)).1,(h k (by omega)).2]
   rw [Jm k fun j hj=>h j (by omega)]
omit [Mo] in
theorem Fq {tr:List TE}{e:TE}{j:Nat}(h:j < tr.length):Fh (tr ++ [e]) j=Fh tr j:=by unfold Fh; rw [List.getElem?_append_left h]
omit [Mo] in
theorem SR {tr:List TE}{e:TE}{j:Nat}(h:j < tr.length):Rv (tr ++ [e]) j=Rv tr j:=by unfold Rv; rw [List.getElem?_append_left h]
omit [Mo] in
theorem MH {tr:List TE}{e:TE}{j:Nat}(h:j < tr.length):Vn (DD (tr ++ [e])) j=Vn (DD tr) j:=by unfold Vn DD; rw [List.map_append,List.getElem?_append_left (by simpa using h)]
omit [Mo] in
theorem Yn {ops:Array Oper}{t0:Nat->V}{vs vs':List V}{f:Nat->Bool}(h:∀ j,f j=true->Vn vs j=Vn vs' j):tL ops t0 vs f=tL ops t0 vs' f:=by
 funext d
 unfold tL
 cases OS ops d with
 | none=>rfl
 | some j =>
   simp only
   cases hf:f j with
   | false=>rfl
   | true=>simp only [cond_true,h j hf]
omit [Mo] in
theorem DV {i j:Nat}:Bv i j=true ↔ j < i:=by unfold Bv; rw [Nat.blt_eq]
theorem Path.step {ops:Array Oper} {E:XE} {t0:Nat->V} {s0:AB} {k:Nat} {st:BC} {tr:List TE} {masks:List Nat} (hp:na ops E.n masks) (h:Path P ops E t0 s0 k st tr) {o:Oper} (ho:ops[k]? = some o) {v:X} {u:XS} {ns:List Nat}
   (hl:QA P ops k (AG E st) ns v.enc u):Path P ops E t0 s0 (k+1) (HX st o.dst v u) (tr ++ [⟨v,u,ns⟩]):=by
 have hlen:=h.len
 have hu:Fh (tr ++ [⟨v,u,ns⟩]) k=u:=by unfold Fh; rw [<- hlen]; simp
 have hns:Rv (tr ++ [⟨v,u,ns⟩]) k=ns:=by unfold Rv; rw [<- hlen]; simp
 have hv:Vn (DD (tr ++ [⟨v,u,ns⟩])) k=v.enc:=by unfold Vn DD; rw [<- hlen]; simp
 have hts:∀ i,i<=k->tL ops t0 (DD (tr ++ [⟨v,u,ns⟩])) (Bv i)=tL ops t0 (DD tr) (Bv i):=fun i hi=>Yn fun j hj=>MH (by have:=DV.1 hj; omega)
 have hacc:∀ i,i<=k->acc (Fh (tr ++ [⟨v,u,ns⟩])) (Bv i) i=acc (Fh tr) (Bv i) i:=fun i hi=>Jm i fun j hj=>⟨rfl,Fq (by omega)⟩
 refine ⟨by simp [hlen],?_,?_,fun i hi=>?_⟩
 · rw [Bs]
   have e1:((AG E st).put o.dst v.enc (over (AG E st).s u)).t=match o.dst with | some d=>Ak (AG E st).t d v.enc | none=>(AG E st).t:=rfl
   rw [e1,h.t,<- hts k (Nat.le_refl _)]
   have step:∀ j,j ≠ k->Bv (k+1) j=Bv k j:=by
     intro j hj
     rw [Bool.eq_iff_iff,DV,DV]; omega
   cases hd:o.dst with
   | none =>
     funext d
     show tL ops t0 (DD (tr ++ [⟨v,u,ns⟩])) (Bv k) d=tL ops t0 (DD (tr ++ [⟨v,u,ns⟩])) (Bv (k+1)) d
     unfold tL
     cases hq:OS ops d with
     | none=>rfl
     | some q =>
       obtain ⟨oq,hoq,hdq⟩:=Eg hq
       have:q ≠ k:=by rintro rfl; rw [ho] at hoq; cases hoq; rw [hd] at hdq; cases hdq
       simp only [step q this]
   | some d' =>
     funext d
     show Ak _ d' v.enc d=_
     by_cases hdd:d=d'
     · subst hdd
       rw [AA]
       unfold tL
       rw [hp.uniq k o d ho hd]
       have:Bv (k+1) k=true:=DV.2 (by omega)
       simp only [this,cond_true,hv]
     · rw [AH _ _ hdd]
       unfold tL
       cases hq:OS ops d with
       | none=>rfl
       | some q =>
         obtain ⟨oq,hoq,hdq⟩:=Eg hq
         have:q ≠ k:=by rintro rfl; rw [ho] at hoq; cases hoq; rw [hd] at hdq; exact hdd (Option.some.inj hdq).symm
         simp only [step q this]
 · rw [Bs]
   show over (AG E st).s u=_
   rw [h.s]
   have:Bv (k+1) k=true:=DV.2 (by omega)
   simp only [acc,this,cond_true,hu]
   have e2:acc (Fh (tr ++ [⟨v,u,ns⟩])) (Bv (k+1)) k=acc (Fh tr) (Bv k) k:=Jm k fun j hj=>⟨by rw [Bool.eq_iff_iff,DV,DV]; omega,Fq (by omega)⟩
   rw [e2]
   funext m
   rw [Cb,Cb,Cb,AX]
   cases lk u m <;> rfl
 · by_cases hik:i=k
   · subst hik
     rw [hu,hns,hv,hts i (Nat.le_refl _),hacc i (Nat.le_refl _),<- h.t,<- h.s]
     exact hl
   · have hik':i < k:=by omega
     rw [hts i (by omega),hacc i (by omega),SR (by omega),Fq (by omega),MH (by omega)]
     exact h.law i hik'
omit [Mo] in
theorem Sr {us:Nat->XS} {i:Nat}:∀ (k:Nat),i<=k->acc us (Bv i) k=acc us (Bv i) i
 | 0, h => by have:i=0:=by omega
              subst this; rfl
 | k + 1,h=>by
   by_cases hik:i=k+1
   · subst hik; rfl
   · simp only [acc]
     have:Bv i k=false:=by rw [<- Bool.not_eq_true,DV]; omega
     rw [this,cond_false,List.nil_append]
     exact Sr k (by omega)
theorem Path.done {ops:Array Oper} {E:XE} {Gz st:BC} {tr:List TE} {masks:List Nat} (hp:na ops E.n masks) (h:Path P ops E (AG E Gz).t (AG E Gz).s ops.size st tr) (hc:Yb masks tr=true) {id:Nat} {Q:Exit->St->Prop} (hm:P.follows .mixedOrders=true)
   (k:Q .normal (AG E st)):Tr P AV (.region id ops true) (AG E Gz) Q:=by
 have chk:cq ops E.n (Fh tr) (Rv tr):=by
   refine ⟨hp.fit,hp.uniq,hp.reads,hp.low,fun i j hi hj hij=>?_⟩
   have h1:=List.all_eq_true.1 hc j (List.mem_range.2 (by rw [h.len]; exact hj))
   cases he:(Fh tr j).isEmpty with
   | true =>
     right; right
     intro m x hx
     rw [List.isEmpty_iff] at he
     rw [he] at hx; cases hx
   | false =>
     rw [he,cond_false] at h1
     have h2:=List.all_eq_true.1 h1 i (List.mem_range.2 (by rw [h.len]; exact hi))
     simp only [Bool.or_eq_true] at h2
     rcases h2 with (h2 | h2) | h2
     · exact absurd (Nat.eq_of_beq_eq_true h2) hij
     · unfold lO at h2
       rw [Bool.or_eq_true] at h2
       rcases h2 with h2 | h2
       · exact .inl (Rl hp.mask hp.low i hi j h2)
       · exact .inr (.inl (Rl hp.mask hp.low j hj i h2))
     · right; right
       intro m x hx
       have h3:=List.all_eq_true.1 h2 _ (Cg hx)
       simp only [Bool.and_eq_true,Bool.not_eq_true'] at h3
       refine ⟨fun hm=>?_,?_⟩
       · rw [BR.2 hm] at h3; cases h3.1
       · cases hl:lk (Fh tr i) m with
         | none=>rfl
         | some y =>
           have:=h3.2
           rw [BR.2 (List.mem_map.2 ⟨_,Cg hl,rfl⟩)] at this; cases this
 have:=Tr.any (id:=id) (t:=(AG E Gz).t) (s:=(AG E Gz).s) (n:=E.n) (an:=E.a) (Bk:=DD tr) (Q:=Q) hm chk (fun i hi=>?_) ?_
 · exact this
 · have hl:=h.law i hi
   intro st1 hn ha ht hs
   refine hl st1 hn ha ht fun m hm=>?_
   rw [hs m hm,Sr ops.size (by omega)]
 · rw [<- h.t,<- h.s]; exact k
noncomputable def Rk {R:Type}(D:Au)(rows:Nat->Option Row)(Γ : List (Ao P))(ops:Array Oper)(E:XE)(masks:List Nat):List Oper->BC->List TE->(BC->Option R)->Option R
 | [],st,tr,K=>Ai (Yb masks tr) (K st)
 | o :: l,st,tr,K =>
   let step:=fun st'=>QN D rows Γ ops E o st' (gR (cT E st' o) (gE E st')) fun v u=>Rk D rows Γ ops E masks l (HX st' o.dst v u) (tr ++ [⟨v,u,cT E st' o⟩]) K
   PT ops E o st step step
theorem Path.lit {ops:Array Oper}{E:XE}{t0:Nat->V}{s0:AB}{k:Nat}{st st':BC}{tr:List TE}(h:Path P ops E t0 s0 k st tr)(he:AG E st' = AG E st):Path P ops E t0 s0 k st' tr :=
 ⟨h.len,by rw [he]; exact h.t,by rw [he]; exact h.s,h.law⟩
theorem Kj (hg:Good P D) {R:Type} {rows:Nat->Option Row} {Γ : List (Ao P)} {ops:Array Oper} {E:XE} {masks:List Nat} (hp:na ops E.n masks) {Gz:BC} {r:R}:∀ (l:List Oper) (k:Nat) (st:BC) (tr:List TE) (K:BC->Option R),
   ops.toList.drop k=l->k<=ops.size->Path P ops E (AG E Gz).t (AG E Gz).s k st tr->Rk D rows Γ ops E masks l st tr K=some r ->
   ∃ st' tr', Path P ops E (AG E Gz).t (AG E Gz).s ops.size st' tr' /\ Yb masks tr' = true/\K st' = some r
 | [],k,st,tr,K,hl,hk,hpath,h=>by
   obtain ⟨hc,h⟩:=DY h
   have:k=ops.size:=by
     have:=congrArg List.length hl
     simp at this; omega
   subst this
   exact ⟨st,tr,hpath,hc,h⟩
 | o :: l,k,st,tr,K,hl,hk,hpath,h=>by
   have hks:k < ops.size:=by
     have:=congrArg List.length hl
     simp at this; omega
   have ho:ops[k]? = some o:=by
     have:=congrArg (fun l=>l[0]?) hl
     simpa using this
   have hoA:oA ops k=o:=by unfold oA; rw [Array.getElem?_toList,ho]; rfl
   have hl':ops.toList.drop (k+1)=l:=by
     have:=congrArg (List.drop 1) hl
     rw [List.drop_drop] at this
     simpa [Nat.add_comm] using this
   simp only [Rk] at h
   obtain ⟨st', he,h⟩:=Lo h
   have h:QN D rows Γ ops E o st' (gR (cT E st' o) (gE E st')) (fun v u=>Rk D rows Γ ops E masks l (HX st' o.dst v u) (tr ++ [⟨v,u,cT E st' o⟩]) K)=some r:=h.elim id id
   rw [<- hoA] at h
   obtain ⟨v,u,h1,h2⟩:=Pu hg hks h
   rw [hoA] at h1 h2
   exact Kj hg hp l (k+1) _ _ K hl' hks (Path.step hp (hpath.lit he) ho h2) h1
end Go.Proofs.YthoimblkpcikdaaGreatDoor.Mc
namespace Go.Proofs.YthoimblkpcikdaaGreatDoor.Mc
open Go.RowKit
variable [Mo]
set_option linter.constructorNameAsVariable false
variable {P:Program}{D:Au}
inductive An where
 | nd
 | sq (a b:An)
 | jn (kt ko:List Nat) (ts:List (Nat × JE)) (hs:List (List Ah)) (a b:An)
 | lp (kt ko:List Nat) (L:JE) (h:List Ah) (ts:List (Nat × JE)) (hs:List (List Ah)) (a:An)
 | lc (kt ko:List Nat) (L:JE) (h:List Ah) (ts:List (Nat × JE)) (hs:List (List Ah)) (a:An)
 | mk (BM masks:List Nat)
 | fr (fz:List (Nat × Nat))
 | al (i:Nat) (a b:An)
def An.fst:An->An | .sq a _=>a | _=>.nd
def An.snd:An->An | .sq _ b=>b | _=>.nd
def An.ms:An->List Nat | .mk _ l=>l | _=>[]
def An.kc:An->List (Nat × Nat) | .fr l=>l | _=>[]
def An.fz:An->List Nat | .mk l _=>l | _=>[]
def pJ:X->Bool | .c _=>true | _=>false
def An.at (E:XE)(st:BC):An->An
 | .al i a b=>cond (pJ (Xn E st i)) (a.at E st) (b.at E st)
 | a=>a
def IB:Exit->Option Nat
 | .normal=>some 0
 | .ret=>some 1
 | .exit id=>some (id+2)
 | _=>none
def Gn {α:Type}(t:List (Nat × α)):List Nat->List (Nat × α)
 | []=>[]
 | i :: l=>match lk t i with | some x=>(i,x) :: Gn t l | none=>Gn t l
def GK {α:Type}(l:List Nat):List (Nat × α)->List (Nat × α)
 | []=>[]
 | p :: t=>cond (Br l p.1) (GK l t) (p :: GK l t)
def JL (kt ko:List Nat)(E:XE)(st:BC):XE:=⟨Gn st.t kt ++ E.t,Gn st.s ko ++ E.s,E.n,E.a⟩
def Wy (kt ko:List Nat)(st:BC):BC:=⟨GK kt st.t,GK ko st.s⟩
def Fy (kt ko:List Nat)(st:BC)(f:BC):BC:=⟨f.t ++ Gn st.t kt,f.s ++ Gn st.s ko⟩
omit [Mo] in
theorem MZ {α:Type} (t:List (Nat × α)):∀ (l:List Nat) (n:Nat),lk (Gn t l) n=if n ∈ l then lk t n else none
 | [],n=>by simp [Gn,lk]
 | i :: l,n=>by
   simp only [Gn]
   cases hl:lk t i with
   | none =>
     simp only []
     rw [MZ t l n]
     by_cases hn:n=i
     · subst hn; simp [hl]
     · simp [hn]
   | some x =>
     simp only [lk]
     cases hb:Nat.beq i n with
     | true=>have:=Nat.eq_of_beq_eq_true hb; subst this; simp [hl]
     | false =>
       have hn:¬ n=i:=by rintro rfl; simp at hb
       rw [cond_false,MZ t l n]; simp [hn]
omit [Mo] in
theorem IV {α:Type} (l:List Nat):∀ (t:List (Nat × α)) (n:Nat),lk (GK l t) n=if n ∈ l then none else lk t n
 | [],n=>by simp [GK,lk]
 | (i, x) :: t,n=>by
   simp only [GK,lk]
   cases hk:Br l i with
   | true =>
     rw [cond_true,IV l t n]
     cases hb:Nat.beq i n with
     | true=>have:=Nat.eq_of_beq_eq_true hb; subst this; simp [BR.1 hk]
     | false=>rfl
   | false =>
     rw [cond_false,lk]
     cases hb:Nat.beq i n with
     | true =>
       have:=Nat.eq_of_beq_eq_true hb; subst this
       have:i ∉ l:=fun h=>by rw [BR.2 h] at hk; cases hk
       simp [this]
     | false=>rw [cond_false,IV l t n]; rfl
omit [Mo] in
theorem Su {α:Type}(l:List Nat)(t u:List (Nat × α))(n:Nat):lk (GK l t ++ (Gn t l ++ u)) n=lk (t ++ u) n:=by
 rw [AX,AX,AX,IV,MZ]
 by_cases h:n ∈ l
 · rw [if_pos h,if_pos h]
 · rw [if_neg h,if_neg h]
omit [Mo] in
theorem YV {t u:XT}(h:∀ i,lk t i=lk u i):Ci t=Ci u:=by funext i; unfold Ci; rw [h]
omit [Mo] in
theorem Qw {t u:XS}(h:∀ i,lk t i=lk u i):encS t=encS u:=by funext i; unfold encS; rw [h]
omit [Mo] in
theorem Ls (kt ko:List Nat)(E:XE)(st:BC):AG (JL kt ko E st) (Wy kt ko st)=AG E st:=by
 unfold AG JL Wy
 simp only
 rw [YV (Su kt st.t E.t),Qw (Su ko st.s E.s)]
omit [Mo] in
theorem UE (kt ko:List Nat)(E:XE)(st f:BC):AG E (Fy kt ko st f)=AG (JL kt ko E st) f:=by
 unfold AG JL Fy
 simp only [List.append_assoc]
def Gx (E:XE)(hs:List (List Ah)):Nat->List (Nat × JE)->Nat->BC->Option (Ea hs)
 | _,[],_,_=>none
 | i,(x,tp) :: ts,e,st=>cond (Nat.beq x e) (match CD E tp st with
   | some l=>Gq hs i l
   | none=>Gx E hs (i+1) ts e st) (Gx E hs (i+1) ts e st)
def CX (ts:List (Nat × JE))(i:Nat):Nat × JE:=match ts[i]? with | some p=>p | none=>(0,⟨[],[]⟩)
omit [Mo] in
theorem Gf {E:XE} {hs:List (List Ah)} {e:Nat} {st:BC} {y:Ea hs} {ts0:List (Nat × JE)}:∀ (ts:List (Nat × JE)) (i:Nat),(∀ j,ts0[i+j]? = ts[j]?)->Gx E hs i ts e st=some y ->
   ∃ k l,(CX ts0 k).1=e/\CD E (CX ts0 k).2 st=some l/\Gq hs k l=some y
 | [],i,_,h=>by cases h
 | (x, tp) :: ts,i,h0,h=>by
   have hn:∀ j,ts0[i+1+j]? = ts[j]? := fun j=>by have:=h0 (j+1); simpa [Nat.add_assoc,Nat.add_comm 1 j] using this
   simp only [Gx] at h
   cases hb:Nat.beq x e with
   | false=>rw [hb] at h; exact Gf ts (i+1) hn h
   | true =>
     rw [hb] at h
     simp only [cond_true] at h
     split at h
     · rename_i l hl
       have he:CX ts0 i=(x,tp):=by unfold CX; have:=h0 0; simp at this; rw [this]
       exact ⟨i,l,by rw [he]; exact Nat.eq_of_beq_eq_true hb,by rw [he]; exact hl,h⟩
     · exact Gf ts (i+1) hn h
def AE {α β:Type}(f:α->Option (α ⊕ β)):Nat->α->Option β
 | 0,_=>none
 | k+1,a=>(f a).bind (BN (AE f k) some)
def VF (E:XE)(L:JE)(h:List Ah)(ts:List (Nat × JE))(hs:List (List Ah))(e:Nat)(st:BC):Option (Tup h ⊕ Ea hs) :=
 cond (Nat.beq e 0) (match CD E L st with
   | some l=>match Dx h l with | some y=>some (.inl y) | none=>none
   | none=>none) (match Gx E hs 0 ts e st with | some y=>some (.inr y) | none=>none)
def EN {α β R:Type}(f:α->(α->Option R)->(β->Option R)->Option R):Nat->α->(β->Option R)->Option R
 | 0,_,_=>none
 | k+1,a,K=>f a (fun b=>EN f k b K) K
def Vv {R:Type}(E:XE)(L:JE)(h:List Ah)(ts:List (Nat × JE))(hs:List (List Ah))(Kin:Tup h->Option R)(Kout:Ea hs->Option R)(e:Nat)(st:BC):Option R :=
 cond (Nat.beq e 0) (match CD E L st with
   | some l=>match Dx h l with | some y=>Kin y | none=>none
   | none=>none) (match Gx E hs 0 ts e st with | some y=>Kout y | none=>none)
noncomputable def exec (D:Au) (rows:Nat->Option Row) (Γ : List (Ao P)) (fuel:Nat):Code->∀ {R:Type},An->XE->BC->(Nat->BC->Option R)->Option R
 | .skip,_,_,_,st,K=>K 0 st
 | .ret,_,_,_,st,K=>K 1 st
 | .exit id,_,_,_,st,K=>K (id+2) st
 | .region _ ops draw,_,an,E,st,K=>cond draw
     (Ai (preB ops E.n (an.at E st).ms) (match EE E (an.at E st).fz st with
       | some st'=>Rk D rows Γ ops E (an.at E st).ms ops.toList st' [] (K 0)
       | none=>none))
     (LJ D rows Γ ops E (an.at E st).kc 0 ops.toList st (K 0))
 | .seq a b,_,an,E,st,K=>match an.at E st with
   | .jn kt ko ts hs A B =>
     (exec D rows Γ fuel a A (JL kt ko E st) (Wy kt ko st) (Gx (JL kt ko E st) hs 0 ts)).bind fun y=>Av hs y fun i l =>
       cond (Nat.beq (CX ts i).1 0) (exec D rows Γ fuel b B E (Fy kt ko st (BF (CX ts i).2 l)) K) (K (CX ts i).1 (Fy kt ko st (BF (CX ts i).2 l)))
   | an=>exec D rows Γ fuel a an.fst E st fun e st'=>cond (Nat.beq e 0) (exec D rows Γ fuel b an.snd E st' K) (K e st')
 | .cond c a b,_,an,E,st,K=>match Yk E st c with
   | .b q=>cond q (exec D rows Γ fuel a (an.at E st).fst E st K) (exec D rows Γ fuel b (an.at E st).snd E st K)
   | _=>none
 | .block id c,_,an,E,st,K=>exec D rows Γ fuel c an E st fun e st'=>cond (Nat.beq e (id+2)) (K 0 st') (K e st')
 | .loop c,_,an,E,st,K=>match an.at E st with
   | .lp kt ko L h ts hs A=>match CD (JL kt ko E st) L (Wy kt ko st) with
     | some l=>match Dx h l with
       | some y0=>(AE (fun y=>exec D rows Γ fuel c A (JL kt ko E st) (BF L (Bc h y)) (VF (JL kt ko E st) L h ts hs)) fuel y0).bind fun x=>Av hs x fun i l =>
           K (CX ts i).1 (Fy kt ko st (BF (CX ts i).2 l))
       | none=>none
     | none=>none
   | .lc kt ko L h ts hs A=>match CD (JL kt ko E st) L (Wy kt ko st) with
     | some l=>match Dx h l with
       | some y0=>EN (fun y Kin Kout=>exec D rows Γ fuel c A (JL kt ko E st) (BF L (Bc h y)) (Vv (JL kt ko E st) L h ts hs Kin Kout)) fuel y0 fun x=>Av hs x fun i l =>
           K (CX ts i).1 (Fy kt ko st (BF (CX ts i).2 l))
       | none=>none
     | none=>none
   | _=>none
 | _,_,_,_,_,_=>none
def Gl {R:Type}(E:XE)(K:Nat->BC->Option R)(r:R):Exit->St->Prop:=fun e s=>∃ x st', IB e=some x/\Conv AV s (AG E st')/\K x st' = some r
omit [Mo] in
theorem DT {e:Exit}(h:IB e=some 0):e=.normal:=by cases e <;> simp [IB] at h <;> rfl
theorem HQ {R:Type}{E:XE}{kt ko:List Nat}{st:BC}{hs:List (List Ah)}{ts:List (Nat × JE)}{y:Ea hs}{x:Nat}{st':BC}(h:Gx (JL kt ko E st) hs 0 ts x st' = some y)(f:Nat->List HV->Option R){r:R}(hf:Av hs y f=some r) :
   ∃ k l,(CX ts k).1=x/\f k l=some r/\Conv AV (AG (JL kt ko E st) st') (AG E (Fy kt ko st (BF (CX ts k).2 l))):=by
 obtain ⟨k,l,h1,h2,h3⟩:=Gf (ts0:=ts) ts 0 (fun j=>by simp) h
 refine ⟨k,l,h1,?_,?_⟩
 · rw [<- Pm hs k l y f h3]; exact hf
 · rw [UE]; exact Conv.CD h2
theorem Ta (hg : Good P D) (hm:P.follows .mixedOrders=true) {rows:Nat->Option Row} {Γ : List (Ao P)} {fuel:Nat}:∀ (c:Code) {R:Type} (an:An) (E:XE) (st:BC) (K:Nat->BC->Option R) (r:R),exec D rows Γ fuel c an E st K=some r ->
   Tr P AV c (AG E st) (Gl E K r):=by
 intro c
 induction c with
 | skip=>intro R an E st K r h; exact Tr.skip ⟨0,st,rfl,Conv.refl _,by simpa only [exec] using h⟩
 | ret=>intro R an E st K r h; exact Tr.ret ⟨1,st,rfl,Conv.refl _,by simpa only [exec] using h⟩
 | exit id=>intro R an E st K r h; exact Tr.exit ⟨id+2,st,rfl,Conv.refl _,by simpa only [exec] using h⟩
 | region id ops draw =>
   intro R an E st K r h
   simp only [exec] at h
   cases draw with
   | false =>
     simp only [cond_false] at h
     exact Tr.region (EZ hg ops.toList 0 st (K 0) h fun st' h'=>⟨0,st', rfl,Conv.refl _,h'⟩)
   | true =>
     simp only [cond_true] at h
     obtain ⟨hp,h⟩:=DY h
     have hp:=im hp
     split at h
     · rename_i st1 hf
       refine Tr.conv (Ct hf) ?_
       have p0:Path P ops E (AG E st1).t (AG E st1).s 0 st1 []:=by
         refine ⟨rfl,?_,rfl,fun i hi=>by omega⟩
         funext d
         unfold tL
         cases OS ops d with
         | none=>rfl
         | some q =>
           have:Bv 0 q=false:=by rw [<- Bool.not_eq_true,DV]; omega
           simp only [this,cond_false]
       obtain ⟨st', tr', h1,h2,h3⟩:=Kj hg hp ops.toList 0 st1 [] (K 0) (by simp) (Nat.zero_le _) p0 h
       exact h1.done hp h2 hm ⟨0,st', rfl,Conv.refl _,h3⟩
     · cases h
 | seq a b iha ihb =>
   intro R an E st K r h
   have plain:∀ (A B:An),exec D rows Γ fuel a A E st (fun e st'=>cond (Nat.beq e 0) (exec D rows Γ fuel b B E st' K) (K e st'))=some r->Tr P AV (.seq a b) (AG E st) (Gl E K r):=by
     intro A B h
     refine Tr.seq ((iha A E st _ r h).mono ?_)
     rintro e s ⟨x,st', h1,h2,h3⟩
     replace h3:(cond (Nat.beq x 0) (exec D rows Γ fuel b B E st' K) (K x st'))=some r:=h3
     cases hx:Nat.beq x 0 with
     | true =>
       rw [hx] at h3
       have hx0:=Nat.eq_of_beq_eq_true hx
       subst hx0
       obtain rfl:=DT h1
       exact Tr.conv h2 (ihb B E st' K r h3)
     | false =>
       rw [hx] at h3
       have hne:e ≠ .normal:=by rintro rfl; cases h1; cases hx
       have:aC P AV b (Gl E K r) e s=Gl E K r e s:=by cases e <;> first | rfl | exact absurd rfl hne
       rw [this]; exact ⟨x,st', h1,h2,h3⟩
   simp only [exec] at h
   generalize an.at E st=an at h
   cases an with
   | jn kt ko ts hs A B =>
     obtain ⟨y,hy,h⟩:=Dk h
     have ha:=iha A (JL kt ko E st) (Wy kt ko st) _ y hy
     rw [Ls] at ha
     refine Tr.seq (ha.mono ?_)
     rintro e s ⟨x,st', h1,h2,h3⟩
     obtain ⟨k,l,h4,h5,h6⟩:=HQ h3 _ h
     cases hx:Nat.beq (CX ts k).1 0 with
     | true =>
       rw [hx] at h5
       have hx0:=Nat.eq_of_beq_eq_true hx
       rw [h4] at hx0
       subst hx0
       obtain rfl:=DT h1
       exact Tr.conv (h2.trans h6) (ihb B E _ K r h5)
     | false =>
       rw [hx] at h5
       have hne:e ≠ .normal:=by rintro rfl; cases h1; rw [h4] at hx; cases hx
       have:aC P AV b (Gl E K r) e s=Gl E K r e s:=by cases e <;> first | rfl | exact absurd rfl hne
       rw [this]; exact ⟨x,_,h1,h2.trans h6,by rw [<- h4]; exact h5⟩
   | nd=>exact plain _ _ h
   | sq A B=>exact plain _ _ h
   | lp=>exact plain _ _ h
   | lc=>exact plain _ _ h
   | mk=>exact plain _ _ h
   | al=>exact plain _ _ h
   | fr=>exact plain _ _ h
 | cond c a b iha ihb =>
   intro R an E st K r h
   simp only [exec] at h
   split at h
   · rename_i q hq
     refine Tr.cond q (by rw [LM,hq]; rfl) (fun e=>?_) (fun e=>?_)
     · subst e; exact iha _ E st K r h
     · subst e; exact ihb _ E st K r h
   · cases h
 | block id c ih =>
   intro R an E st K r h
   simp only [exec] at h
   refine Tr.block ((ih an E st _ r h).mono ?_)
   rintro e s ⟨x,st', h1,h2,h3⟩
   replace h3:(cond (Nat.beq x (id+2)) (K 0 st') (K x st'))=some r:=h3
   cases hx:Nat.beq x (id+2) with
   | true =>
     rw [hx] at h3
     have hx':=Nat.eq_of_beq_eq_true hx
     subst hx'
     cases e with
     | exit id' =>
       simp only [IB,Option.some.injEq] at h1
       have:id' = id:=by omega
       subst this
       show if id' = id' then _ else _
       rw [if_pos rfl]; exact ⟨0,st', rfl,h2,h3⟩
     | _=>simp [IB] at h1
   | false =>
     rw [hx] at h3
     cases e with
     | exit id' =>
       simp only [IB,Option.some.injEq] at h1
       have:id' ≠ id:=by rintro rfl; rw [<- h1] at hx; simp at hx
       show if id' = id then _ else _
       rw [if_neg this]; exact ⟨x,st', by simp [IB,h1],h2,h3⟩
     | _=>exact ⟨x,st', h1,h2,h3⟩
 | loop c ih =>
   intro R an E st K r h
   simp only [exec] at h
   generalize an.at E st=an at h
   cases an with
   | lp kt ko L hh ts hs A =>
     simp only at h
     split at h
     · rename_i l0 hl0
       split at h
       · rename_i y0 hy0
         obtain ⟨z,hz,h⟩:=Dk h
         have c0:=Conv.CD hl0
         rw [Ls,<- DK hh l0 y0 hy0] at c0
         refine Tr.conv c0 ?_
         refine Tr.loop (fun n s=>∃ y,Conv AV s (AG (JL kt ko E st) (BF L (Bc hh y)))/\AE (fun y=>exec D rows Γ fuel c A (JL kt ko E st) (BF L (Bc hh y)) (VF (JL kt ko E st) L hh ts hs)) n y=some z) fuel ⟨y0,Conv.refl _,hz⟩ ?_
         rintro n s ⟨y,hcv,hn⟩
         cases n with
         | zero=>cases hn
         | succ n =>
           simp only [AE] at hn
           obtain ⟨q,hq,hn⟩:=Dk hn
           refine Tr.conv hcv ((ih A _ _ _ q hq).mono ?_)
           rintro e s' ⟨x,st', h1,h2,h3⟩
           unfold VF at h3
           cases hx:Nat.beq x 0 with
           | true =>
             rw [hx] at h3
             simp only [cond_true] at h3
             have hx0:=Nat.eq_of_beq_eq_true hx
             subst hx0
             obtain rfl:=DT h1
             split at h3
             · rename_i l1 hl1
               split at h3
               · rename_i y1 hy1
                 cases h3
                 refine ⟨n,Nat.lt_succ_self n,y1,h2.trans ?_,hn⟩
                 rw [DK hh l1 y1 hy1]; exact Conv.CD hl1
               · cases h3
             · cases h3
           | false =>
             rw [hx] at h3
             simp only [cond_false] at h3
             split at h3
             · rename_i y1 hy1
               cases h3
               simp only [BN] at hn
               cases hn
               obtain ⟨k,l,h4,h5,h6⟩:=HQ hy1 _ h
               have hne:e ≠ .normal:=by rintro rfl; cases h1; cases hx
               have:aU (fun n s=>∃ y,Conv AV s (AG (JL kt ko E st) (BF L (Bc hh y)))/\AE (fun y=>exec D rows Γ fuel c A (JL kt ko E st) (BF L (Bc hh y)) (VF (JL kt ko E st) L hh ts hs)) n y=some z) (n+1) (Gl E K r) e s' = Gl E K r e s':=by
                 cases e <;> first | rfl | exact absurd rfl hne
               rw [this]
               exact ⟨x,_,h1,h2.trans h6,by rw [<- h4]; exact h5⟩
             · cases h3
       · cases h
     · cases h
   | lc kt ko L hh ts hs A =>
     simp only at h
     split at h
     · rename_i l0 hl0
       split at h
       · rename_i y0 hy0
         have c0:=Conv.CD hl0
         rw [Ls,<- DK hh l0 y0 hy0] at c0
         refine Tr.conv c0 ?_
         generalize hK:(fun x=>Av hs x fun i l=>K (CX ts i).1 (Fy kt ko st (BF (CX ts i).2 l)))=KK at h
         refine Tr.loop (fun n s=>∃ y,Conv AV s (AG (JL kt ko E st) (BF L (Bc hh y)))/\EN (fun y Kin Kout=>exec D rows Γ fuel c A (JL kt ko E st) (BF L (Bc hh y)) (Vv (JL kt ko E st) L hh ts hs Kin Kout)) n y KK=some r) fuel ⟨y0,Conv.refl _,h⟩ ?_
         rintro n s ⟨y,hcv,hn⟩
         cases n with
         | zero=>cases hn
         | succ n =>
           simp only [EN] at hn
           refine Tr.conv hcv ((ih A _ _ _ r hn).mono ?_)
           rintro e s' ⟨x,st', h1,h2,h3⟩
           unfold Vv at h3
           cases hx:Nat.beq x 0 with
           | true =>
             rw [hx] at h3
             simp only [cond_true] at h3
             have hx0:=Nat.eq_of_beq_eq_true hx
             subst hx0
             obtain rfl:=DT h1
             split at h3
             · rename_i l1 hl1
               split at h3
               · rename_i y1 hy1
                 refine ⟨n,Nat.lt_succ_self n,y1,h2.trans ?_,h3⟩
                 rw [DK hh l1 y1 hy1]; exact Conv.CD hl1
               · cases h3
             · cases h3
           | false =>
             rw [hx] at h3
             simp only [cond_false] at h3
             split at h3
             · rename_i y1 hy1
               rw [<- hK] at h3
               obtain ⟨k,l,h4,h5,h6⟩:=HQ hy1 _ h3
               have hne:e ≠ .normal:=by rintro rfl; cases h1; cases hx
               have:aU (fun n s=>∃ y,Conv AV s (AG (JL kt ko E st) (BF L (Bc hh y)))/\EN (fun y Kin Kout=>exec D rows Γ fuel c A (JL kt ko E st) (BF L (Bc hh y)) (Vv (JL kt ko E st) L hh ts hs Kin Kout)) n y KK=some r) (n+1) (Gl E K r) e s' = Gl E K r e s':=by
                 cases e <;> first | rfl | exact absurd rfl hne
               rw [this]
               exact ⟨x,_,h1,h2.trans h6,by rw [<- h4]; exact h5⟩
             · cases h3
       · cases h
     · cases h
   | nd=>cases h
   | sq A B=>cases h
   | jn=>cases h
   | mk=>cases h
   | al=>cases h
   | fr=>cases h
 | _=>intro R an E st K r h; simp [exec] at h
end Go.Proofs.YthoimblkpcikdaaGreatDoor.Mc
namespace Go.Proofs.YthoimblkpcikdaaGreatDoor.Mc
open Go.RowKit
variable [Mo]
set_option linter.constructorNameAsVariable false
variable {P:Program}{D:Au}
theorem Tr.post {G:BG}{c:Code}{st:St}{Q Q2:Exit->St->Prop}(h:Tr P G c st Q)(hq:∀ e s,Q e s->∃ s2,Conv G s s2/\Q2 e s2):Tr P G c st Q2:=by
 intro B F loc a w hR hd
 refine wp_mono (h B F loc a w hR hd) ?_
 rintro e a' w' ⟨h1,F', loc', st', h2,h3⟩
 obtain ⟨s2,hc,hq2⟩:=hq e st' h3
 obtain ⟨F2,loc2,hR2⟩:=hc B F' loc' a'.tmps w' h2
 exact ⟨h1,F2,loc2,s2,hR2,hq2⟩
def VN (D:Au)(E:XE)(st:BC):ResultVar->Option X
 | .tmp t=>some (Xn E st t)
 | .cell a t=>match VG D (gE E st) t (Xn E st a) with | .ok v _=>some v | _=>none
def VV (D:Au)(E:XE)(st:BC):List ResultVar->Option (List X)
 | []=>some []
 | r :: rs=>match VN D E st r,VV D E st rs with
   | some x,some xs=>some (x :: xs)
   | _,_=>none
def my:List X->X
 | [x]=>x
 | xs=>.tp xs
def ik (D:Au)(E:XE)(st:BC)(rs:List ResultVar):Option X:=match VV D E st rs with | some xs=>some (my xs) | none=>none
omit [Mo] in
theorem Tp {E:XE} {st:BC} {r:ResultVar} {x:X} (h:VN D E st r=some x):aM D (AG E st) r=some x.enc:=by
 cases r with
 | tmp t=>simp only [VN] at h; cases h; show some ((AG E st).t t)=_; rw [LK]
 | cell a t =>
   simp only [VN] at h
   have law:=NM (D:=D) (PX E st) (e:=fun o=>match o with | .tmp i=>(AG E st).t i | _=>.dead) (t:=t) (op:=.tmp a) (p:=Xn E st a) (LK E st a)
   split at h
   · rename_i v u hx
     cases h
     rw [hx] at law
     exact law.2
   · cases h
omit [Mo] in
theorem Mb {E:XE} {st:BC}:∀ {rs:List ResultVar} {xs:List X},VV D E st rs=some xs->FF D (AG E st) rs=some (xs.map X.enc)
 | [],xs,h=>by cases h; rfl
 | r :: rs,xs,h=>by
   simp only [VV] at h
   split at h
   · rename_i x xs' h1 h2
     cases h
     simp only [FF,Tp h1,Mb h2,List.map_cons]
   · cases h
omit [Mo] in
theorem Wn {E:XE} {st:BC} {rs:List ResultVar} {x:X} (h:ik D E st rs=some x):XH D (AG E st) rs=some x.enc:=by
 unfold ik at h
 split at h
 · rename_i xs hxs
   cases h
   unfold XH
   rw [Mb hxs]
   cases xs with
   | nil=>rfl
   | cons x xs =>
     cases xs with
     | nil=>rfl
     | cons y ys=>simp [my,X.enc,Ac]
 · cases h
def Wa:Nat->List X->XT
 | _,[]=>[]
 | i,x :: xs=>(i,x) :: Wa (i+1) xs
def Zk (fn:Func)(A:AQ)(kp:List Nat)(q:List X × XS):XE:=⟨[],Cf kp q.2,q.1.length+(fn.ntmps - q.1.length),A.o.map (·.1)⟩
def gP (kp:List Nat)(q:List X × XS):BC:=⟨Wa 0 q.1,GK kp q.2⟩
def aY (D:Au)(E:XE)(rs:List ResultVar)(hs:List (List Ah))(R:List AP)(e:Nat)(st:BC):Option (Ea hs) :=
 cond (Nat.ble e 1) (match ik D E st rs with
   | some x=>Gx ⟨[],E.s,1,E.a⟩ hs 0 (R.map fun r=>(0,⟨[(0,r.v)],r.o⟩)) 0 ⟨[(0,x)],st.s⟩
   | none=>none) none
omit [Mo] in
theorem Vk:∀ (xs:List X) (i n:Nat),lk (Wa i xs) n=if i<=n then xs[n - i]? else none
 | [],i,n=>by simp [Wa,lk]
 | x :: xs,i,n=>by
   simp only [Wa,lk]
   cases hb:Nat.beq i n with
   | true=>have:=Nat.eq_of_beq_eq_true hb; subst this; simp
   | false =>
     have hne:i ≠ n:=by rintro rfl; simp at hb
     rw [cond_false,Vk xs (i+1) n]
     by_cases h:i<=n
     · rw [if_pos (by omega),if_pos h]
       have:n - i=(n - (i+1))+1:=by omega
       rw [this,List.getElem?_cons_succ]
     · rw [if_neg (by omega),if_neg h]
def af (hs:List (List Ah))(y:Ea hs):Nat × List HV:=Av hs y fun i l=>(i,l)
omit [Mo] in
theorem HU {β:Type}:∀ (hs:List (List Ah)) (y:Ea hs) (f:Nat->List HV->β),Av hs y f=f (af hs y).1 (af hs y).2
 | [],y,_=>y.elim
 | [_],_,_=>rfl
 | _ :: _ :: _,.inl _,_=>rfl
 | _ :: g :: t,.inr z,f=>by
   have h1:=HU (g :: t) z fun i l=>f (i+1) l
   have h2:=HU (g :: t) z fun i l=>(i+1,l)
   show Av (g :: t) z (fun i l=>f (i+1) l)=f (Av (g :: t) z fun i l=>(i+1,l)).1 (Av (g :: t) z fun i l=>(i+1,l)).2
   rw [h1,h2]
theorem iG (hg:Good P D) (hm:P.follows .mixedOrders=true) {f:FuncId} {fn:Func} {c:Code} (bU:P.funcs[f]? = some fn) (hb:fn.body=some c) {rows:Nat->Option Row} {Γ : List (Ao P)} {fuel:Nat} {A:AQ} {h:List Ah} {kp:List Nat} {R:List AP} (an:An) (y:Tup h) {r:Ea (R.map (·.h))}
   (he:exec D rows Γ fuel c an (Zk fn A kp (FT A (Bc h y))) (gP kp (FT A (Bc h y))) (aY D (Zk fn A kp (FT A (Bc h y))) fn.results.toList (R.map (·.h)) R)=some r) :
   Av (R.map (·.h)) r fun i l=>MJ P f (FT A (Bc h y)).1 (FT A (Bc h y)).2 (Gv (EC R i) l).1 ((Gv (EC R i) l).2 ++ Cf kp (FT A (Bc h y)).2):=by
 generalize hq:FT A (Bc h y)=q at he ⊢
 have hkeys:q.2.map (·.1)=A.o.map (·.1):=by
   rw [<- hq]; unfold FT; exact FD _ _
 rw [HU]
 generalize hk:af _ r=kl
 obtain ⟨i,l⟩:=kl
 have tr:=Ta hg hm (rows:=rows) (Γ := Γ) (fuel:=fuel) c an _ _ _ r he
 have start:Conv AV (Gz (q.1.map X.enc) (encS q.2) fn.ntmps (A.o.map (·.1))) (AG (Zk fn A kp q) (gP kp q)):=by
   intro B F loc tmps w hR
   refine ⟨F,loc,⟨?_,fun j=>?_,?_,hR.a⟩⟩
   · have h1:AL AV B w F loc (encS q.2):=hR.s
     have h2:encS (GK kp q.2 ++ Cf kp q.2)=encS q.2:=Qw fun n=>by
       rw [AX,IV,GY]
       by_cases hn:n ∈ kp
       · simp [hn]
       · simp only [if_neg hn]; cases lk q.2 n <;> rfl
     show AL AV B w F loc (encS (GK kp q.2 ++ Cf kp q.2))
     rw [h2]; exact h1
   · have h1:=hR.t j
     show AF w F loc (Ci (Wa 0 q.1 ++ []) j) _
     rw [List.append_nil,FW,Vk,if_pos (Nat.zero_le _),Nat.sub_zero]
     have h2:AF w F loc (((q.1.map X.enc)[j]?).getD vU) (tmps.getD j undef):=h1
     rw [List.getElem?_map] at h2
     cases hx:q.1[j]? with
     | none=>exact .dead _
     | some x=>rw [hx] at h2; exact h2
   · have:=hR.n
     show tmps.size=_
     rw [this]; simp [Gz,Zk]; rfl
 have han:∀ n x,encS q.2 n=some x->n ∈ A.o.map (·.1):=by
   intro n x hx
   rw [<- hkeys]
   unfold encS at hx
   cases hl:lk q.2 n with
   | none=>rw [hl] at hx; cases hx
   | some z=>exact List.mem_map.2 ⟨_,Cg hl,rfl⟩
 have ct := CT.km hg bU hb (vs:=q.1.map X.enc) (s:=encS q.2) (an:=A.o.map (·.1)) (Q:=fun r' s'=>∃ st', ∃ x,r' = x.enc/\s' = (AG (Zk fn A kp q) st').s/\Gx ⟨[],(Zk fn A kp q).s,1,(Zk fn A kp q).a⟩ (R.map (·.h)) 0 (R.map fun r=>(0,⟨[(0,r.v)],r.o⟩)) 0 ⟨[(0,x)],st'.s⟩=some r) han
   (Tr.conv start (tr.post fun e s hp=>by
     obtain ⟨x,st', h1,h2,h3⟩:=hp
     refine ⟨_,h2,?_⟩
     unfold aY at h3
     cases hx:Nat.ble x 1 with
     | false=>rw [hx] at h3; cases h3
     | true =>
       rw [hx] at h3
       simp only [cond_true] at h3
       split at h3
       · rename_i z hz
         have:=Wn hz
         have hx1:=Nat.le_of_ble_eq_true hx
         cases e with
         | normal=>exact ⟨_,this,st', z,rfl,rfl,h3⟩
         | ret=>exact ⟨_,this,st', z,rfl,rfl,h3⟩
         | exit id=>simp only [IB,Option.some.injEq] at h1; omega
         | _=>simp [IB] at h1
       · cases h3))
 intro F loc w args hn hS hA
 refine (ct F loc w args hn hS hA).mono ?_
 rintro e w' ⟨v,F', loc', r', s', rfl,hS', hv,st', x,rfl,rfl,hleaf⟩
 obtain ⟨k,l', h4,h5,h6⟩:=Gf (ts0:=R.map fun r=>(0,⟨[(0,r.v)],r.o⟩)) _ 0 (fun j=>by simp) hleaf
 have hkl:(k,l')=(i,l):=by rw [<- hk]; exact (Pm _ k l' r (fun i l=>(i,l)) h6).symm
 cases hkl
 have hend:CX (R.map fun r=>(0,⟨[(0,r.v)],r.o⟩)) i=(0,⟨[(0,(EC R i).v)],(EC R i).o⟩)\/CX (R.map fun r=>(0,⟨[(0,r.v)],r.o⟩)) i=(0,⟨[],[]⟩):=by
   unfold CX EC
   rw [List.getElem?_map]
   cases R[i]? with
   | none=>exact .inr rfl
   | some z=>exact .inl rfl
 have hmk:(R.map (·.h))[i]? ≠ none:=by
   have:∀ (hs:List (List Ah)) (i:Nat) (l:List HV) (y:Ea hs),Gq hs i l=some y->hs[i]? ≠ none:=by
     intro hs
     induction hs with
     | nil=>intro i l y; exact y.elim
     | cons a t ih =>
       intro i l y h
       cases i with
       | zero=>simp
       | succ i =>
         cases t with
         | nil=>simp [Gq] at h
         | cons b t =>
           simp only [Gq] at h
           split at h
           · rename_i z hz; simpa using ih i l z hz
           · cases h
   exact this _ _ _ _ h6
 have hri:R[i]? ≠ none:=by rw [List.getElem?_map] at hmk; intro h; rw [h] at hmk; exact hmk rfl
 have hend:CX (R.map fun r=>(0,(⟨[(0,r.v)],r.o⟩:JE))) i=(0,⟨[(0,(EC R i).v)],(EC R i).o⟩):=by
   unfold CX EC
   rw [List.getElem?_map]
   cases hz:R[i]? with
   | none=>exact absurd hz hri
   | some z=>rfl
 rw [hend] at h5
 have cv:=Conv.CD h5
 have hR:Rel AV (Dv loc w F hn) F' loc' (AG ⟨[],(Zk fn A kp q).s,1,(Zk fn A kp q).a⟩ ⟨[(0,x)],st'.s⟩) #[v] w':=by
   refine ⟨hS', fun j=>?_,rfl,fun o l hl=>?_⟩
   · show AF w' F' loc' (Ci [(0,x)] j) _
     cases j with
     | zero=>exact hv
     | succ j=>exact .dead _
   · obtain ⟨obj,hobj⟩:=hS.Gp o l hl
     exact han o obj hobj
 obtain ⟨F2,loc2,hR2⟩:=cv _ _ _ _ _ hR
 refine ⟨v,F2,loc2,_,_,rfl,hR2.s,hR2.t 0,?_,?_⟩
 · show Ci ((BF ⟨[(0,(EC R i).v)],(EC R i).o⟩ l).t ++ []) 0=(Bf (EC R i).v l).1.enc
   simp [BF,PJ,Ci,lk]
 · show encS ((BF ⟨[(0,(EC R i).v)],(EC R i).o⟩ l).s ++ Cf kp q.2)=encS ((EH (EC R i).o (Bf (EC R i).v l).2).1 ++ Cf kp q.2)
   simp [BF,PJ]
end Go.Proofs.YthoimblkpcikdaaGreatDoor.Mc
namespace Go.Proofs.YthoimblkpcikdaaGreatDoor.Mc
open Go.RowKit
variable [Mo]
variable {P:Program}{W:World}{H:Type}{enc:TypeId × Value->H}{base:Nat}{sp:Nat->Bool}{held:Bool}
omit [Mo] in
theorem QW {α:Type}{c:Bool}{a:Option α}{b:α}(h:cond c a none=some b):c=true/\a=some b:=by
 cases c
 · cases h
 · exact ⟨rfl,h⟩
def Row.cat:Row->Row->Row
 | .nil,s=>s
 | .int k r,s=>.int k (r.cat s)
 | .bool r,s=>.bool (r.cat s)
 | .str r,s=>.str (r.cat s)
 | .sl e r,s=>.sl e (r.cat s)
def EU:(r s:Row)->r.den->s.den->(r.cat s).den
 | .nil,_,_,y=>y
 | .int _ r,s,x,y=>Kw (r.cat s) (Hm r x) (EU r s (Hn r x) y)
 | .bool r,s,x,y=>Kw (r.cat s) (Hm r x) (EU r s (Hn r x) y)
 | .str r,s,x,y=>Kw (r.cat s) (Hm r x) (EU r s (Hn r x) y)
 | .sl _ r,s,x,y=>Kw (r.cat s) (Hm r x) (EU r s (Hn r x) y)
omit [Mo] in
theorem NX:∀ (r s:Row) (x:r.den) (y:s.den),(r.cat s).en (EU r s x y)=r.en x ++ s.en y
 | .nil,_,_,_=>rfl
 | .int _ r,s,x,y=>by simp only [Row.cat,EU,Row.en,Cu,CQ,NX r s,List.cons_append]
 | .bool r,s,x,y=>by simp only [Row.cat,EU,Row.en,Cu,CQ,NX r s,List.cons_append]
 | .str r,s,x,y=>by simp only [Row.cat,EU,Row.en,Cu,CQ,NX r s,List.cons_append]
 | .sl _ r,s,x,y=>by simp only [Row.cat,EU,Row.en,Cu,CQ,NX r s,List.cons_append]
def Row.gd:(r:Row)->r.den->Prop
 | .nil,_=>True
 | .int k r,x=>(Lit.int k (Hm r x)).wf=true/\r.gd (Hn r x)
 | .bool r,x=>r.gd (Hn r x)
 | .str r,x=>(Hm r x).size<=maxLen/\r.gd (Hn r x)
 | .sl e r,x=>((Hm r x).length<=maxLen/\∀ z ∈ Hm r x,e.gd z)/\r.gd (Hn r x)
def Row.CM:(r:Row)->r.den->Nat
 | .nil,_=>0
 | .int _ r,x=>r.CM (Hn r x)
 | .bool r,x=>r.CM (Hn r x)
 | .str r,x=>(Hm r x).size+r.CM (Hn r x)
 | .sl e r,x=>((Hm r x).map fun z=>e.CM z+1).sum+r.CM (Hn r x)
omit [Mo] in
theorem IA:∀ (r s:Row) (x:r.den) (y:s.den),(r.cat s).CM (EU r s x y)=r.CM x+s.CM y
 | .nil,_,_,_=>by simp only [Row.cat,EU,Row.CM,Nat.zero_add]
 | .int _ r,s,x,y=>by simp only [Row.cat,EU,Row.CM,CQ,IA r s]
 | .bool r,s,x,y=>by simp only [Row.cat,EU,Row.CM,CQ,IA r s]
 | .str r,s,x,y=>by simp only [Row.cat,EU,Row.CM,CQ,Cu,IA r s,Nat.add_assoc]
 | .sl e r,s,x,y=>by simp only [Row.cat,EU,Row.CM,CQ,Cu,IA r s,Nat.add_assoc]
omit [Mo] in
theorem PO {α:Type}(f:α->Nat):∀ (xs:List α) (ns:List Nat),ns.length=xs.length->(∀ i (h:i < xs.length),f xs[i]+1<=ns.getD i 0)->(xs.map fun z=>f z+1).sum<=ns.sum
 | [],ns,_,_=>by simp
 | x :: xs,n :: ns,hl,h=>by
   have h0:=h 0 (by simp)
   have:=PO f xs ns (by simpa using hl) (fun i hi=>by have:=h (i+1) (by simpa using hi); simpa using this)
   simp only [List.getElem_cons_zero,List.getD_cons_zero] at h0
   simp only [List.map_cons,List.sum_cons]
   omega
 | _ :: _,[],hl,_=>by simp at hl
omit [Mo] in
theorem RP:∀ (ns:List Nat) (i:Nat),i < ns.length->(ns.drop i).sum=ns.getD i 0+(ns.drop (i+1)).sum
 | [],_,h=>by simp at h
 | n :: ns,0,_=>by simp
 | n :: ns,i+1,h=>by
   have:=RP ns i (by simpa using h)
   simpa using this
omit [Mo] in
theorem NR:∀ (r s:Row) (x:r.den) (y:s.den),r.gd x->s.gd y->(r.cat s).gd (EU r s x y)
 | .nil,_,_,_,_,k=>k
 | .int _ r,s,x,y,h,k=>by simp only [Row.cat,EU,Row.gd,Cu,CQ]; exact ⟨h.1,NR r s _ _ h.2 k⟩
 | .bool r,s,x,y,h,k=>by simp only [Row.cat,EU,Row.gd,CQ]; exact NR r s _ _ h k
 | .str r,s,x,y,h,k=>by simp only [Row.cat,EU,Row.gd,Cu,CQ]; exact ⟨h.1,NR r s _ _ h.2 k⟩
 | .sl _ r,s,x,y,h,k=>by simp only [Row.cat,EU,Row.gd,Cu,CQ]; exact ⟨h.1,NR r s _ _ h.2 k⟩
def Sq (P:Program)(f:TypeId->Option Row)(n:Nat):Nat->List Field->Option Row
 | off,[]=>cond (Nat.beq off n) (some .nil) none
 | off,fl :: fs=>cond (Nat.beq fl.offset off) (match f fl.type,Sq P f n (off+P.cellsOf fl.type) fs with
   | some r,some s=>cond (Nat.beq r.len (P.cellsOf fl.type)) (some (r.cat s)) none
   | _,_=>none) none
def XY (P:Program):Nat->TypeId->Option Row
 | 0,_=>none
 | n+1,t=>match P.underlying t with
   | some (.int k)=>some (.int k .nil)
   | some .bool=>some (.bool .nil)
   | some .string=>some (.str .nil)
   | some (.slice e)=>cond (Nat.blt 0 (P.cellsOf e)) (match XY P n e with | some r=>some (.sl r .nil) | none=>none) none
   | some (.struct fs)=>Sq P (XY P n) (P.cellsOf t) 0 fs.toList
   | _=>none
instance rowInh:(r:Row)->Inhabited r.den:=fun r=>⟨r.zero⟩
omit [Mo] in
theorem KZ {f:TypeId->Option Row} {n:Nat} {cs:List Value} (hl:cs.length=n) {fs:Array Field} {ns:List Nat} (hns:ns.length=fs.size)
   (hf:∀ (i:Nat) (fl:Field) (r:Row),fs[i]? = some fl->f fl.type=some r->∃ a:r.den,BU W ((cs.drop fl.offset).take (P.cellsOf fl.type)) (r.en a)/\r.gd a/\r.CM a+1<=ns.getD i 0) :
   ∀ (l:List Field) (i off:Nat) (r:Row),(∀ j fl,l[j]? = some fl->fs[i+j]? = some fl)->Sq P f n off l=some r->∃ a:r.den,BU W ((cs.drop off).take (n - off)) (r.en a)/\r.gd a/\off<=n/\r.CM a<=(ns.drop i).sum
 | [],i,off,r,_,h=>by
   unfold Sq at h
   obtain ⟨h1,h2⟩:=AR h
   cases h2
   have:=Nat.eq_of_beq_eq_true h1
   subst this
   exact ⟨(),by rw [Nat.sub_self,List.take_zero]; exact ⟨rfl,fun j y hj=>by simp [Row.en] at hj⟩,trivial,Nat.le_refl _,Nat.zero_le _⟩
 | fl :: l,i,off,r,hi,h=>by
   unfold Sq at h
   obtain ⟨h1,h2⟩:=QW h
   have ho:=Nat.eq_of_beq_eq_true h1
   split at h2
   · rename_i r1 s1 hr hs
     obtain ⟨h3,h4⟩:=AR h2
     cases h4
     have hlen:=Nat.eq_of_beq_eq_true h3
     obtain ⟨a,ha,ga,ka⟩:=hf i fl r1 (hi 0 fl rfl) hr
     obtain ⟨b,hb,gb,hle,kb⟩:=KZ hl hns hf l (i+1) _ s1 (fun j fl' hj=>by have:=hi (j+1) fl' (by simpa using hj); rwa [Nat.add_assoc,Nat.add_comm 1]) hs
     have hi':i < ns.length:=by rw [hns]; exact (Array.getElem?_eq_some_iff.1 (hi 0 fl rfl)).1
     refine ⟨EU r1 s1 a b,?_,NR _ _ _ _ ga gb,by omega,by rw [IA,RP ns i hi']; omega⟩
     rw [NX]
     rw [ho] at ha
     have:=BU.cat ha hb (by rw [Row.Ch,hlen])
     rwa [show P.cellsOf fl.type+(n - (off+P.cellsOf fl.type))=n - off by omega] at this
   · cases h2
omit [Mo] in
theorem FP:∀ (n:Nat) (t:TypeId) (r:Row),XY P n t=some r->KJ P W enc base sp held t r.en (fun a m=>r.gd a/\r.CM a+1<=m)
 | 0,_,_,h=>by cases h
 | n + 1,t,r,h=>by
   unfold XY at h
   split at h
   · rename_i k hu
     cases h
     intro fuel cs x hx
     obtain ⟨m,hc,hw⟩:=Oy hu fuel cs x hx
     exact ⟨m,hc,⟨hw,trivial⟩,Ig _⟩
   · rename_i hu
     cases h
     intro fuel cs x hx
     obtain ⟨m,hc,hw⟩:=Mr hu fuel cs x hx
     exact ⟨m,hc,trivial,Ig _⟩
   · rename_i hu
     cases h
     intro fuel cs x hx
     obtain ⟨m,hc,hw,hk⟩:=Ic hu fuel cs x hx
     exact ⟨m,hc,⟨hw,trivial⟩,hk⟩
   · rename_i e hu
     obtain ⟨h1,h2⟩:=QW h
     split at h2
     · rename_i q hq
       cases h2
       have hp:0 < P.cellsOf e:=by simpa [Nat.blt_eq] using h1
       intro fuel cs x hx
       obtain ⟨m,hc,hw,ns,h1,h2,h3⟩:=KG hu hp (FP n e q hq) fuel cs x hx
       exact ⟨m,hc,⟨⟨hw,fun z hz=>by obtain ⟨i,hi,rfl⟩:=List.getElem_of_mem hz; exact (h3 i hi).1⟩,trivial⟩,Nat.le_trans (Nat.succ_le_succ (PO q.CM m ns h1 fun i hi=>(h3 i hi).2)) h2⟩
     · cases h2
   · rename_i fs hu
     intro fuel cs x hx
     obtain ⟨hl,ns,h1,h2,hf⟩:=Ru hu hx
     obtain ⟨a,ha,ga,_,ka⟩:=KZ hl h1 (fun i fl q hi hq=>hf i fl hi (FP n fl.type q hq)) fs.toList 0 0 r (fun j fl hj=>by simpa using hj) h
     rw [Nat.sub_zero] at ha
     exact ⟨a,ha.whole hl,ga,by rw [List.drop_zero] at ka; omega⟩
   · cases h
inductive Gd where | int (k:IntKind) | bool | str | sl (r:Row)
def Gd.ty:Gd->Ah | .int _=>.ti | .bool=>.tb | .str=>.ts | .sl r=>.tl r
def Gd.ok:(g:Gd)->g.ty.den->Prop
 | .int k,n=>(Lit.int k n).wf=true
 | .bool,_=>True
 | .str,(s:ByteArray)=>s.size<=maxLen
 | .sl r,(xs:List r.den)=>xs.length<=maxLen/\∀ z ∈ xs,r.gd z
def Gd.CM:(g:Gd)->g.ty.den->Nat
 | .int _,_=>0
 | .bool,_=>0
 | .str,(s:ByteArray)=>s.size
 | .sl r,(xs:List r.den)=>(xs.map fun z=>r.CM z+1).sum
def XI:(gs:List Gd)->Tup (gs.map Gd.ty)->Nat
 | [],_=>0
 | [g],x=>g.CM x
 | g :: g' :: gs,x=>g.CM x.1+XI (g' :: gs) x.2
def gO:(gs:List Gd)->Tup (gs.map Gd.ty)->Prop
 | [],_=>True
 | [g],x=>g.ok x
 | g :: g' :: gs,x=>g.ok x.1/\gO (g' :: gs) x.2
def OE:Row->List Gd
 | .nil=>[]
 | .int k r=>.int k :: OE r
 | .bool r=>.bool :: OE r
 | .str r=>.str :: OE r
 | .sl e r=>.sl e :: OE r
def Gu:Row->List Sh
 | .nil=>[]
 | .int k r=>.i k :: Gu r
 | .bool r=>.b :: Gu r
 | .str r=>.s :: Gu r
 | .sl e r=>.fz .u e :: Gu r
def GF:(r:Row)->r.den->List HV
 | .nil,_=>[]
 | .int _ r,x=>⟨.ti,Hm r x⟩ :: GF r (Hn r x)
 | .bool r,x=>⟨.tb,Hm r x⟩ :: GF r (Hn r x)
 | .str r,x=>⟨.ts,Hm r x⟩ :: GF r (Hn r x)
 | .sl e r,x=>⟨.tl e,Hm r x⟩ :: GF r (Hn r x)
omit [Mo] in
theorem Fs:∀ (r:Row) (x:r.den) (l:List HV),DI (Gu r) (GF r x ++ l)=(r.cells x,l)
 | .nil,_,_=>rfl
 | .int _ r,x,l=>by simp only [Gu,GF,List.cons_append,DI,Bf,Fs r,Row.cells]; rfl
 | .bool r,x,l=>by simp only [Gu,GF,List.cons_append,DI,Bf,Fs r,Row.cells]; rfl
 | .str r,x,l=>by simp only [Gu,GF,List.cons_append,DI,Bf,Fs r,Row.cells]; rfl
 | .sl _ r,x,l=>by simp only [Gu,GF,List.cons_append,DI,Bf,Fs r,Row.cells]; rfl
inductive HW:List Gd->List HV->Nat->Prop where
 | nil:HW [] [] 0
 | cons (g:Gd) (v:g.ty.den) (gs:List Gd) (l:List HV) (m:Nat) (h:g.ok v) (hs:HW gs l m):HW (g :: gs) (⟨g.ty,v⟩ :: l) (g.CM v+m)
omit [Mo] in
theorem HW.append:∀ {gs gs':List Gd} {l l':List HV} {m m':Nat},HW gs l m->HW gs' l' m' -> HW (gs ++ gs') (l ++ l') (m+m')
 | _,_,_,_,_,m', .nil,k=>by rw [Nat.zero_add]; exact k
 | _,_,_,_,_,m', .cons g v gs l m h hs,k=>by rw [Nat.add_assoc]; exact .cons g v _ _ _ h (hs.append k)
omit [Mo] in
theorem GO:∀ (r:Row) (x:r.den),r.gd x->HW (OE r) (GF r x) (r.CM x)
 | .nil,_,_=>.nil
 | .int k r,x,h=>by have:=HW.cons (.int k) (Hm r x) _ _ _ h.1 (GO r _ h.2); simp only [Gd.CM,Nat.zero_add] at this; exact this
 | .bool r,x,h=>by have:=HW.cons .bool (Hm r x) _ _ _ trivial (GO r _ h); simp only [Gd.CM,Nat.zero_add] at this; exact this
 | .str r,x,h=>.cons .str _ _ _ _ h.1 (GO r _ h.2)
 | .sl e r,x,h=>.cons (.sl e) _ _ _ _ h.1 (GO r _ h.2)
omit [Mo] in
theorem HW.ub:∀ {gs:List Gd} {l:List HV} {m:Nat},HW gs l m->∃ y:Tup (gs.map Gd.ty),Bc (gs.map Gd.ty) y=l/\gO gs y/\XI gs y=m
 | _,_,_,.nil=>⟨(),rfl,trivial,rfl⟩
 | _,_,_,.cons g v _ _ _ h .nil=>⟨v,rfl,h,rfl⟩
 | _,_,_,.cons g v _ _ _ h (.cons g' v' gs l m h' hs)=>by
   obtain ⟨y,hy,gy,ky⟩:=(HW.cons g' v' gs l m h' hs).ub
   exact ⟨(v,y),by rw [<- hy]; rfl,⟨h,gy⟩,by rw [<- ky]; rfl⟩
def Zz (P:Program)(n:Nat)(t:TypeId):Option (Sh × List Gd) :=
 match P.underlying t with
 | some (.int k)=>some (.i k,[.int k])
 | some .bool=>some (.b,[.bool])
 | some .string=>some (.s,[.str])
 | some (.slice e)=>cond (Nat.blt 0 (P.cellsOf e)) (match XY P n e with | some r=>some (.fz .u r,[.sl r]) | none=>none) none
 | some (.struct _)=>match XY P n t with | some r=>some (.ag (Gu r),OE r) | none=>none
 | _=>none
omit [Mo] in
theorem LO {v:Value}{y:T}(hv:v.cells = #[v])(h:BU W v.cells.toList [y]):AF W (Fw W) Iv (.t y) v:=by
 obtain ⟨u,hu,_,hrel⟩:=h.2 0 _ rfl
 rw [hv] at hu
 cases hu
 exact .t _ _ hrel
def gX:TypeDesc->Bool
 | .int _=>true
 | .bool=>true
 | .string=>true
 | .slice _=>true
 | _=>false
omit [Mo] in
theorem Pp {r:Reach} {b0:Nat} {t:TypeId} {v:Value} {d:TypeDesc} (hval:Value.okWide P W r b0 t v) (hu:P.underlying t=some d) (hd:gX d=true):v.cells = #[v]:=by
 unfold Value.okWide at hval
 rw [hu] at hval
 cases d <;> first
   | (cases hd; done)
   | (cases v with
     | agg cs=>exfalso; simp [Cell.okWide,Cell.ok,hu] at hval
     | _=>rfl)
omit [Mo] in
theorem Rj {n:Nat} {t:TypeId} {s:Sh} {gs:List Gd} (h:Zz P n t=some (s,gs)) {r:Reach} {b0:Nat} {v:Value} {d:DataW H} {ps:List MemPlace} (hval:Value.okWide P W r b0 t v) (hd:DataW.Trod enc P W base sp held t v d ps) :
   ∃ l m,HW gs l m/\m+1<=Bo d/\∃ x,(∀ l', Bf s (l ++ l')=(x,l'))/\AF W (Fw W) Iv x.enc v:=by
 have hd':=hd
 obtain ⟨fuel,hf⟩:=hd
 unfold Zz at h
 split at h
 · rename_i k hu
   cases h
   obtain ⟨m,hc,hw⟩:=Oy hu fuel _ _ hf
   exact ⟨[⟨.ti,m⟩],_,.cons (.int k) m _ _ _ hw .nil,Ig _,.i k m,fun _=>rfl,LO (Pp hval hu rfl) hc⟩
 · rename_i hu
   cases h
   obtain ⟨m,hc,hw⟩:=Mr hu fuel _ _ hf
   exact ⟨[⟨.tb,m⟩],_,.cons .bool m _ _ _ trivial .nil,Ig _,.b m,fun _=>rfl,LO (Pp hval hu rfl) hc⟩
 · rename_i hu
   cases h
   obtain ⟨m,hc,hw,hk⟩:=Ic hu fuel _ _ hf
   exact ⟨[⟨.ts,m⟩],_,.cons .str m _ _ _ hw .nil,hk,.s m,fun _=>rfl,LO (Pp hval hu rfl) hc⟩
 · rename_i e hu
   obtain ⟨h1,h2⟩:=QW h
   split at h2
   · rename_i q hq
     cases h2
     have hp:0 < P.cellsOf e:=by simpa [Nat.blt_eq] using h1
     obtain ⟨m,hc,hw,ns,k1,k2,k3⟩:=KG hu hp (FP n e q hq) fuel _ _ hf
     exact ⟨[⟨.tl q,m⟩],_,.cons (.sl q) m _ _ _ ⟨hw,fun z hz=>by obtain ⟨i,hi,rfl⟩:=List.getElem_of_mem hz; exact (k3 i hi).1⟩ .nil,Nat.le_trans (Nat.succ_le_succ (PO q.CM m ns k1 fun i hi=>(k3 i hi).2)) k2,.fz .u q m,fun _=>rfl,LO (Pp hval hu rfl) hc⟩
   · cases h2
 · rename_i fs hu
   split at h
   · rename_i q hq
     cases h
     obtain ⟨a,ha,ga,ka⟩:=dX hu hval (FP n t q hq) hd'
     refine ⟨GF q a,_,GO q a ga,ka,.ag (q.cells a),fun l'=>by simp only [Bf,Fs],?_⟩
     rw [X.enc,Ac,Row.Bp]
     exact ha
   · cases h
 · cases h
def MB (P:Program)(n:Nat):List TypeId->Option (List Sh × List Gd)
 | []=>some ([],[])
 | t :: ts=>match Zz P n t,MB P n ts with
   | some (s,g),some (ss,gs)=>some (s :: ss,g ++ gs)
   | _,_=>none
omit [Mo] in
theorem Mg {n:Nat} {r:Reach} {b0:Nat}:∀ {ts:List TypeId} {ss:List Sh} {gs:List Gd} {vs:List Value} {ds:List (DataW H)} {ps:List MemPlace},MB P n ts=some (ss,gs) ->
   (∀ (j:Nat) t v,ts[j]? = some t->vs[j]? = some v->Value.okWide P W r b0 t v)->DataW.TrodAll enc P W base sp held ts vs ds ps ->
   ∃ l m,HW gs l m/\m<=Fc ds/\∃ xs,(∀ l', DI ss (l ++ l')=(xs,l'))/\CU W (Fw W) Iv (xs.map X.enc) vs
 | [],_,_,vs,ds,ps,h,_,hd=>by
   cases h
   cases vs <;> cases ds <;> simp [DataW.TrodAll] at hd
   exact ⟨[],0,.nil,Nat.zero_le _,[],fun _=>rfl,RR⟩
 | t :: ts,ss,gs,vs,ds,ps,h,hval,hd=>by
   unfold MB at h
   split at h
   · rename_i s g ss' gs' h1 h2
     cases h
     cases vs <;> cases ds <;> simp only [DataW.TrodAll] at hd
     all_goals first | exact hd.elim | skip
     rename_i v vs d ds
     obtain ⟨p,q,hp,hq,e⟩:=hd
     obtain ⟨l,m,hl,k1,x,hx,rx⟩:=Rj h1 (hval 0 t v rfl rfl) hp
     obtain ⟨l2,m2,hl2,k2,xs,hxs,rxs⟩:=Mg h2 (fun j t' v' a b=>hval (j+1) t' v' (by simpa using a) (by simpa using b)) hq
     refine ⟨l ++ l2,m+m2,hl.append hl2,by simp only [Fc]; omega,x :: xs,fun l'=>?_,OX rx rxs⟩
     rw [List.append_assoc]
     simp only [DI,hx,hxs]
   · cases h
theorem Fl (hG:Jg W){n:Nat}{f:FuncId}{ts:List TypeId}{ss:List Sh}{gs:List Gd}(ha:MB P n ts=some (ss,gs)){ds:List (DataW H)}
   (law:∀ y:Tup (gs.map Gd.ty),gO gs y->XI gs y<=Fc ds->MJ P f (FT ⟨ss,[]⟩ (Bc (gs.map Gd.ty) y)).1 [] (.b true) [])
   {r:Reach} {b0:Nat} {args:Array Value} {ps:List MemPlace}
   (hval:∀ (j:Nat) t v,ts[j]? = some t->args[j]? = some v->Value.okWide P W r b0 t v) (hd:DataW.TrodAll enc P W base sp held ts args.toList ds ps) :
   Calls P f args W fun e w'=>e=.returned (.bool true)/\Below W.heap.size W w':=by
 obtain ⟨l,m,hl,hm,xs,hxs,rxs⟩:=Mg ha (fun j t v a b=>hval j t v a (by simpa using b)) hd
 obtain ⟨y,hy,gy,ky⟩:=hl.ub
 have h:=law y gy (by omega)
 rw [hy] at h
 have e:(FT ⟨ss,[]⟩ l).1=xs:=by
   have:=hxs []
   rw [List.append_nil] at this
   simp only [FT,this]
 rw [e] at h
 exact nA.calls (f:=f) (vs:=xs.map X.enc) h hG rxs
end Go.Proofs.YthoimblkpcikdaaGreatDoor.Mc
namespace Go.Proofs.YthoimblkpcikdaaGreatDoor.Mc
open Go.RowKit
variable [Mo]
variable {P:Program}
def Ty (w:World):Prop:=∀ g cells,AV g=some cells->∀ (j:Nat) v,cells[j]? = some (T.sc v)->w.cell? ⟨g,j,none⟩=some v
theorem AL.fM {B:BH}{w:World}{F:Nat->Prop}{loc:Nat->Option Loc}{s:AB}(hS:AL AV B w F loc s):Ty w:=by
 intro g cells hg j v hj
 obtain ⟨_,val,hc,hr⟩:=hS.GG g cells hg
 rw [hc j (List.getElem?_eq_some_iff.1 hj).1]
 have:=hr j _ hj
 cases this with
 | sc=>rfl
theorem AL.below {G:BG}{B:BH}{w w':World}{F:Nat->Prop}{loc:Nat->Option Loc}{s:AB}(hS:AL G B w F loc s)(hb:Below w.heap.size w w')(hdr:Mo.m=true->w.drawn<=w'.drawn):AL G B w' F loc s:=by
 have hk:Kept w F w' F:=fun b hF=>⟨hF,hb.block b (hS.BM b hF).1⟩
 refine ⟨?_,hS.Gp,hS.inj,?_,?_,hS.Ud,hb.os.trans hS.os,hb.tape.trans hS.tape,hb.output.trans hS.output,Nat.le_trans hS.size hb.size,?_,hS.TT,?_,fun h=>Nat.le_trans (hS.Ub h) (hdr h)⟩
 · intro o obj ho
   obtain ⟨l,hl,hr⟩:=hS.Cy o obj ho
   exact ⟨l,hl,hr.mono hk (Az.refl _) (fun b hb'=>hb.block b (hS.own o l b hl hb').1) fun c _ _ _ _ ⟨i,hi⟩ _=>hb.block c (hS.own i _ c hi rfl).1⟩
 · intro o l b h1 h2
   have:=hS.own o l b h1 h2
   exact ⟨Nat.lt_of_lt_of_le this.1 hb.size,this.2⟩
 · intro b hF
   have:=hS.BM b hF
   exact ⟨Nat.lt_of_lt_of_le this.1 hb.size,this.2⟩
 · intro b hb1 hx
   rw [hb.block b (Nat.lt_of_lt_of_le hb1 hS.size)]
   exact hS.BS b hb1 hx
 · intro g cells hg
   obtain ⟨hF,val,hc,hr⟩:=hS.GG g cells hg
   exact ⟨hF,val,fun j hj=>(BL (w:=w) (hk g hF).2).trans (hc j hj),fun j x hj=>(hr j x hj).mono hk⟩
omit [Mo] in
theorem Va {w:World} {F:Nat->Prop} {loc:Nat->Option Loc}:∀ {vs args:List Value},CU w F loc (vs.map fun v=>V.t (.sc v)) args->args=vs
 | [],[],_=>rfl
 | [],_ :: _,h=>by have:=h.1; simp at this
 | _ :: _,[],h=>by have:=h.1; simp at this
 | v :: vs,a :: bs,h=>by
   obtain ⟨u,hu,hr⟩:=h.2 0 _ rfl
   cases hu
   have h1:=AU hr
   have h2:bs=vs:=Va ⟨by have:=h.1; simpa using this,fun j y hj=>by
     obtain ⟨u,hu,hr⟩:=h.2 (j+1) y (by simpa using hj)
     exact ⟨u,by simpa using hu,hr⟩⟩
   rw [h1,h2]
theorem MJ.lib {f:FuncId}{xs:List X}{vs:List Value}{r:X}{u:Value}(hx:xs.map X.enc=vs.map fun v=>V.t (.sc v))(hr:∀ (w:World) (F:Nat->Prop) (loc:Nat->Option Loc),AF w F loc r.enc u)
   (h:∀ w,Ty w->Calls P f vs.toArray w fun e w'=>e=.returned u/\Below w.heap.size w w' /\ (Mo.m=true->w.drawn<=w'.drawn)):MJ P f xs [] r []:=by
 intro F loc w args hn hS hA
 rw [hx] at hA
 obtain rfl:=Va hA
 refine (h w hS.fM).mono ?_
 rintro e w' ⟨rfl,hb,hd⟩
 exact ⟨u,F,loc,r.enc,encS [],rfl,hS.below hb hd,hr w' F loc,rfl,rfl⟩
omit [Mo] in
theorem YH {w:World}{F:Nat->Prop}{loc:Nat->Option Loc}{k k':IntKind}{a b:Int}:AF w F loc (X.enc (.tp [.i k a,.i k' b])) (.tuple #[.int k a,.int k' b]):=by
 refine .tp _ [.int k a,.int k' b] (fun j=>[Value.int k a,.int k' b].getD j undef) rfl (fun j hj=>?_) (fun j y hj=>?_)
 · match j,hj with
   | 0,_=>rfl
   | 1,_=>rfl
   | j+2,hj=>exact absurd (show j+2 < 2 from hj) (by omega)
 · match j,hj with
   | 0,hj=>cases hj; exact .t _ _ (.sc _ rfl)
   | 1,hj=>cases hj; exact .t _ _ (.sc _ rfl)
   | j+2,hj=>simp [CG] at hj
def ID:List T:=(List.range 256).map fun c=>T.sc (.int .u8 ((Lib.firstT c:Nat):Int))
def PD:List T:=(List.range 32).map fun j=>T.sc (.int .u8 ((if j % 2=0 then Lib.accLo (j / 2) else Lib.accHi (j / 2):Nat):Int))
omit [Mo] in
theorem cO {g3 g4:Nat}(h3:AV g3=some ID)(h4:AV g4=some PD){w:World}(h:Ty w):Lib.Utf8Tabs g3 g4 w:=by
 refine ⟨fun c hc=>h g3 _ h3 c _ (by simp [ID,hc]),fun i hi=>⟨h g4 _ h4 (2 * i) _ ?_,h g4 _ h4 (2 * i+1) _ ?_⟩⟩
 · simp [PD,show 2 * i < 32 by omega]
 · simp [PD,show 2 * i+1 < 32 by omega,show (2 * i+1) % 2 ≠ 0 by omega,show (2 * i+1) / 2=i by omega]
omit [Mo] in
theorem Oo {g:Nat}{w:World}{n:Nat}{v:Nat->Value}{cells:List T}(hc:cells=(List.range n).map fun j=>T.sc (v j))(hn:0 < n)(hp:∀ j,j < n->plain (v j)=true)(h:∀ j,j < n->w.cell? ⟨g,j,none⟩=some (v j)) :
   g < w.heap.size/\∃ val:Nat->Value,(∀ j,j < cells.length->w.cell? ⟨g,j,none⟩=some (val j))/\∀ (j:Nat) (x:T),cells[j]? = some x->BJ w (Fw w) x (val j):=by
 subst hc
 refine ⟨?_,v,fun j hj=>h j (by simpa using hj),fun j x hj=>?_⟩
 · have:=h 0 hn
   unfold World.cell? at this
   by_cases hb:g < w.heap.size
   · exact hb
   · simp [Array.getElem?_eq_none (Nat.le_of_not_lt hb)] at this
 · have hj':j < n:=by have:=(List.getElem?_eq_some_iff.1 hj).1; simpa using this
   simp [hj'] at hj
   subst hj
   exact .sc _ (hp j hj')
omit [Mo] in
theorem Sl {g3 g4:Nat}{w:World}(h:Lib.Utf8Tabs g3 g4 w):g3 < w.heap.size/\∃ val:Nat->Value,(∀ j,j < ID.length->w.cell? ⟨g3,j,none⟩=some (val j))/\∀ (j:Nat) (x:T),ID[j]? = some x->BJ w (Fw w) x (val j) :=
 Oo (n:=256) rfl (by omega) (fun _ _=>rfl) fun j hj=>h.1 j hj
omit [Mo] in
theorem XC {g3 g4:Nat} {w:World} (h:Lib.Utf8Tabs g3 g4 w):g4 < w.heap.size/\∃ val:Nat->Value,(∀ j,j < PD.length->w.cell? ⟨g4,j,none⟩=some (val j))/\∀ (j:Nat) (x:T),PD[j]? = some x->BJ w (Fw w) x (val j) :=
 Oo (n:=32) rfl (by omega) (fun _ _=>rfl) fun j hj=>by
   by_cases hm:j % 2=0
   · have:=(h.2 (j / 2) (by omega)).1
     rw [show 2 * (j / 2)=j by omega] at this
     rw [if_pos hm]; exact this
   · have:=(h.2 (j / 2) (by omega)).2
     rw [show 2 * (j / 2)+1=j by omega] at this
     rw [if_neg hm]; exact this
def LF (W:World)(g:Nat)(ss:List ByteArray):Prop:=∀ (j:Nat) (s:ByteArray),ss[j]? = some s->W.cell? ⟨g,j,none⟩=some (.string s)
def ML (ss:List ByteArray):List T:=ss.map fun s=>T.sc (.string s)
omit [Mo] in
theorem UQ {P:Program}{W:World}{n:String}{ss:List ByteArray}{g t e m:Nat}(h:Lib.VarReads P W n (.agg (ss.map fun s=>.lit (.string s.data.toList))))(hg:P.globalNamed n=some g)(hty:(P.globals[g]?).map (·.type)=some t)
   (ht:P.underlying t=some (.array m e)) (he:P.underlying e=some .string) (hc:P.cellsOf e=1) (hl:ss.length=m):LF W g ss:=by
 intro j s hj
 obtain ⟨g', t', cs,fuel,p,hg', hty', hvar,hd⟩:=h
 obtain rfl:=Option.some.inj (hg.symm.trans hg')
 obtain rfl:=Option.some.inj (hty.symm.trans hty')
 have hjl:j < m:=by rw [<- hl]; exact (List.getElem?_eq_some_iff.1 hj).1
 obtain ⟨fuel', d,q,hdi,hel⟩:=Lib.array_elem ht hd j hjl
 rw [List.getElem?_map,hj] at hdi
 simp only [Option.map_some,Option.some.injEq] at hdi
 subst hdi
 rw [hc,Nat.mul_one] at hel
 obtain ⟨s', hcs,hx,_⟩:=DataW.trod_string he hel
 have e1:s.data.toList=s'.data.toList:=by
   have:=congrArg Prod.fst hx
   simpa using this
 have e2:s=s':=by
   apply ByteArray.ext
   exact Array.toList_inj.1 e1
 subst e2
 have e3:=congrArg (·[0]?) hcs
 simp only [List.getElem?_take,List.getElem?_drop] at e3
 rw [World.var?_cell hg hvar j,<- Array.getElem?_toList]
 simpa using e3
omit [Mo] in
theorem SO {g:Nat}{w:World}{ss:List ByteArray}(hn:0 < ss.length)(h:LF w g ss) :
   g < w.heap.size/\∃ val:Nat->Value,(∀ j,j < (ML ss).length->w.cell? ⟨g,j,none⟩=some (val j))/\∀ (j:Nat) (x:T),(ML ss)[j]? = some x->BJ w (Fw w) x (val j):=by
 refine ⟨?_,fun j=>.string (ss.getD j ⟨#[]⟩),fun j hj=>?_,fun j x hj=>?_⟩
 · have:=h 0 ss[0] (List.getElem?_eq_getElem hn)
   unfold World.cell? at this
   by_cases hb:g < w.heap.size
   · exact hb
   · simp [Array.getElem?_eq_none (Nat.le_of_not_lt hb)] at this
 · have hj':j < ss.length:=by unfold ML at hj; simpa using hj
   rw [h j _ (List.getElem?_eq_getElem hj')]
   simp [List.getD,hj']
 · unfold ML at hj
   rw [List.getElem?_map] at hj
   obtain ⟨s,hs,rfl⟩:=Option.map_eq_some_iff.1 hj
   have:ss.getD j ⟨#[]⟩=s:=by simp [List.getD,hs]
   dsimp only
   rw [this]
   exact .sc _ rfl
omit [Mo] in
theorem Pg {g0 g3 g4:Nat} {ss:List ByteArray} (h0:AV g0=some (ML ss)) (hn:0 < ss.length) (h3:AV g3=some ID) (h4:AV g4=some PD) (hno:∀ g,g ≠ g0->g ≠ g3->g ≠ g4->AV g=none) {W:World} (h:LF W g0 ss) (hu:Lib.Utf8Tabs g3 g4 W):Jg W:=by
 intro g cells hg
 by_cases e0:g=g0
 · subst e0; rw [h0] at hg; cases hg; exact SO hn h
 · by_cases e3:g=g3
   · subst e3; rw [h3] at hg; cases hg; exact Sl hu
   · by_cases e4:g=g4
     · subst e4; rw [h4] at hg; cases hg; exact XC hu
     · rw [hno g e0 e3 e4] at hg; cases hg
omit [Mo] in
theorem SQ:∀ (l:List (Nat × (r:Row) × List r.den)) (g:Nat),(∀ p ∈ l,g ≠ p.1)->lF l g=none
 | [],_,_=>rfl
 | (i,a) :: l,g,h=>by
   have h1:Nat.beq i g=false:=by rw [<- Bool.not_eq_true,Nat.beq_eq]; exact fun e=>h (i,a) (by simp) e.symm
   rw [lF,h1,cond_false]
   exact SQ l g fun p hp=>h p (by simp [hp])
omit [Mo] in
theorem Sd {g:Nat}(h:∀ p ∈ dA,g ≠ p.1):AV g=none:=by unfold AV; rw [SQ dA g h]
end Go.Proofs.YthoimblkpcikdaaGreatDoor.Mc
namespace Go.Proofs.YthoimblkpcikdaaGreatDoor.Mc
open Go.RowKit Go.Sort
variable {P:Program}
variable [Mo]
def cL (cmp:ByteArray->ByteArray->Option Int)(x y:ByteArray):Bool:=match cmp x y with | some n=>decide (n < 0) | none=>false
structure ov (cmp:ByteArray->ByteArray->Option Int)(xs:List ByteArray):Prop where
 some:∀ a ∈ xs,∀ b ∈ xs,∃ n,cmp a b=some n
 irrefl:∀ a ∈ xs,cL cmp a a=false
 trans:∀ a ∈ xs,∀ b ∈ xs,∀ c ∈ xs,cL cmp a b=true->cL cmp b c=true->cL cmp a c=true
 ntrans:∀ a ∈ xs,∀ b ∈ xs,∀ c ∈ xs,cL cmp a b=false->cL cmp b c=false->cL cmp a c=false
 total:∀ a ∈ xs,∀ b ∈ xs,cL cmp a b=false->cL cmp b a=false->a=b
 size:xs.length < 4611686018427387904
end Go.Proofs.YthoimblkpcikdaaGreatDoor.Mc
namespace Go.Proofs.YthoimblkpcikdaaGreatDoor.Mc
open Go.RowKit Go.Shelf
variable {P:Program}{ρ:Shelf.Ren}
set_option maxHeartbeats 1000000 in
set_option maxRecDepth 100000 in
theorem Ni (L:Lays.n169 P ρ) (X:Builder.Extra P ρ) (b g cap:Nat) (p:Value) (cur:Array Value) (fr:Nat × Nat) (l:List UInt8) (w:World) (hbk:w.heap[b]? = some (.cells #[p,.slice (some ⟨g,0,none⟩) l.length cap] (ρ.t 72) (0,0)))
   (hg:w.heap[g]? = some (.cells cur (ρ.t 5) fr)) (hnc:l.length<=cap) (hcm:cap<=maxLen) (hcs:cur.size=cap) (htake:cur.toList.take l.length=Lib.byteCells l) (h0:l ≠ []) :
   Calls P (ρ.f 169) #[.pointer (some ⟨b,0,none⟩)] w fun e w'=>e=.returned (.string ⟨l.toArray⟩)/\w' = w.drew.freeze ⟨g,0,none⟩ l.length:=by
 have hl0:l.length ≠ 0:=by simpa using h0
 have c1:w.drew.cell? ⟨b,1,none⟩=some (.slice (some ⟨g,0,none⟩) l.length cap):=by
   have:w.drew.heap[b]? = some (.cells #[p,.slice (some ⟨g,0,none⟩) l.length cap] (ρ.t 72) (0,0)):=hbk
   rw [Lib.cell_of_heap this]; rfl
 have hSD:(Builtin.unsafeSliceData_ #[(ρ.t 37)] (ρ.t 127) #[.slice (some ⟨g,0,none⟩) l.length cap]).run P w.drew=.ok (.pointer (some ⟨g,0,none⟩)) w.drew :=
   Lib.run_unsafeSliceData_row _ _ _ _ _ _ (by omega)
 have hUS:(Builtin.unsafeString_ #[(ρ.t 127),(ρ.t 3)] (ρ.t 9) #[.pointer (some ⟨g,0,none⟩),.int .i64 l.length]).run P w.drew=.ok (.string ⟨l.toArray⟩) (w.drew.freeze ⟨g,0,none⟩ l.length):=by
   refine Lib.run_unsafeString_row w.drew (ρ.t 127) (ρ.t 3) (ρ.t 9) (ρ.t 5) L.t127 X.cellsByte g cur.size (by have hg':w.drew.heap[g]? = some (.cells cur (ρ.t 5) fr):=hg; simp [World.shape?,hg']) l h0 (by omega) (by unfold maxLen at hcm; omega) ?_
   intro j x hx
   have hadd:(⟨g,0,none⟩:Addr).add j=⟨g,j,none⟩:=by unfold Addr.add; split <;> simp_all
   have hj:(Lib.byteCells l)[j]? = some (.int .u8 x.toNat):=by simp [Lib.byteCells,hx]
   rw [<- htake,List.getElem?_take] at hj
   split at hj
   · rw [hadd]
     have hg':w.drew.heap[g]? = some (.cells cur (ρ.t 5) fr):=hg
     rw [Lib.cell_of_heap hg', <- Array.getElem?_toList]
     exact hj
   · cases hj
 have mixed:=L.mixed
 have t72:=L.t72; have a72:=L.a72; have z72:=L.z72; have v72:=L.v72; have u72:=run_underlying L.t72
 have t70:=L.t70; have a70:=L.a70; have z70:=L.z70; have v70:=L.v70; have u70:=run_underlying L.t70
 have t37:=L.t37; have a37:=L.a37; have z37:=L.z37; have v37:=L.v37; have u37:=run_underlying L.t37
 have t127:=L.t127; have a127:=L.a127; have z127:=L.z127; have v127:=L.v127; have u127:=run_underlying L.t127
 have t3:=L.t3; have a3:=L.a3; have z3:=L.z3; have v3:=L.v3; have u3:=run_underlying L.t3
 have t9:=L.t9; have a9:=L.a9; have z9:=L.z9; have v9:=L.v9; have u9:=run_underlying L.t9
 have t5:=X.t5; have a5:=X.a5; have z5:=X.z5; have v5:=X.v5; have u5:=run_underlying X.t5
 go_enter L.f169,Body.n169_ntmps ρ
 go_wp2
 go_region_o
 all_goals (go_wp2; go_ret; exact ⟨rfl,rfl⟩)
set_option maxHeartbeats 2000000 in
set_option maxRecDepth 100000 in
theorem MR (L:Lays.n169 P ρ) (X:Builder.Extra P ρ) (b:Nat) (bb:Option Nat) (cap:Nat) (p:Value) (w:World) (hbk:w.heap[b]? = some (.cells #[p,.slice (bb.map fun g=>⟨g,0,none⟩) 0 cap] (ρ.t 72) (0,0)))
   (hg:∀ g,bb=some g->∃ cur fr,w.heap[g]? = some (.cells cur (ρ.t 5) fr)) (hn:bb=none->cap=0) :
   Calls P (ρ.f 169) #[.pointer (some ⟨b,0,none⟩)] w fun e w'=>e=.returned (.string ⟨#[]⟩)/\(w' = w.drew\/∃ o,w' = (w.alloc o).drew):=by
 have hUS:=Any.unsafeString_none L X
 have mixed:=L.mixed
 have t72:=L.t72; have a72:=L.a72; have z72:=L.z72; have v72:=L.v72; have u72:=run_underlying L.t72
 have t70:=L.t70; have a70:=L.a70; have z70:=L.z70; have v70:=L.v70; have u70:=run_underlying L.t70
 have t37:=L.t37; have a37:=L.a37; have z37:=L.z37; have v37:=L.v37; have u37:=run_underlying L.t37
 have t127:=L.t127; have a127:=L.a127; have z127:=L.z127; have v127:=L.v127; have u127:=run_underlying L.t127
 have t3:=L.t3; have a3:=L.a3; have z3:=L.z3; have v3:=L.v3; have u3:=run_underlying L.t3
 have t9:=L.t9; have a9:=L.a9; have z9:=L.z9; have v9:=L.v9; have u9:=run_underlying L.t9
 have t5:=X.t5; have a5:=X.a5; have z5:=X.z5; have v5:=X.v5; have u5:=run_underlying X.t5
 cases bb with
 | none =>
   obtain rfl:=hn rfl
   simp only [Option.map_none] at hbk
   have c1:w.drew.cell? ⟨b,1,none⟩=some (.slice none 0 0):=by
     have:w.drew.heap[b]? = some (.cells #[p,.slice none 0 0] (ρ.t 72) (0,0)):=hbk
     rw [Lib.cell_of_heap this]; rfl
   have hSD:(Builtin.unsafeSliceData_ #[(ρ.t 37)] (ρ.t 127) #[.slice none 0 0]).run P w.drew=.ok (.pointer none) w.drew:=rfl
   go_enter L.f169,Body.n169_ntmps ρ
   go_wp2
   go_region_o
   all_goals (go_wp2; go_ret; exact ⟨rfl,.inl rfl⟩)
 | some g =>
   obtain ⟨cur,fr,hg⟩:=hg g rfl
   simp only [Option.map_some] at hbk
   by_cases hc0:cap=0
   · subst hc0
     have hlt:b < w.heap.size:=by
       rcases Nat.lt_or_ge b w.heap.size with h' | h'
       · exact h'
       · simp [Array.getElem?_eq_none h'] at hbk
     have c1:w.drew.cell? ⟨b,1,none⟩=some (.slice (some ⟨g,0,none⟩) 0 0):=by
       have:w.drew.heap[b]? = some (.cells #[p,.slice (some ⟨g,0,none⟩) 0 0] (ρ.t 72) (0,0)):=hbk
       rw [Lib.cell_of_heap this]; rfl
     have hSD:(Builtin.unsafeSliceData_ #[(ρ.t 37)] (ρ.t 127) #[.slice (some ⟨g,0,none⟩) 0 0]).run P w.drew=.ok (.pointer (some ⟨w.drew.heap.size,0,none⟩)) (w.drew.alloc (.view ⟨g,0,none⟩ (ρ.t 5))) :=
       Lib.run_unsafeSliceData_zero w.drew _ _ (ρ.t 5) L.t127 ⟨g,0,none⟩ 0 ((ρ.t 5),cur.size) (by have hg':w.drew.heap[g]? = some (.cells cur (ρ.t 5) fr):=hg; simp [World.shape?,hg'])
     have c2:(w.drew.alloc (.view ⟨g,0,none⟩ (ρ.t 5))).cell? ⟨b,1,none⟩=some (.slice (some ⟨g,0,none⟩) 0 0):=by
       have:(w.drew.alloc (.view ⟨g,0,none⟩ (ρ.t 5))).heap[b]? = _:=(Lib.alloc_old w.drew _ b hlt).trans hbk
       rw [Lib.cell_of_heap this]; rfl
     have c3:(w.alloc (.view ⟨g,0,none⟩ (ρ.t 5))).drew.cell? ⟨b,1,none⟩=some (.slice (some ⟨g,0,none⟩) 0 0):=c2
     have c0:w.cell? ⟨b,1,none⟩=some (.slice (some ⟨g,0,none⟩) 0 0):=c1
     go_enter L.f169,Body.n169_ntmps ρ
     go_wp2
     go_region_o
     all_goals (go_wp2; go_ret; exact ⟨rfl,.inr ⟨_,rfl⟩⟩)
   · have c1:w.drew.cell? ⟨b,1,none⟩=some (.slice (some ⟨g,0,none⟩) 0 cap):=by
       have:w.drew.heap[b]? = some (.cells #[p,.slice (some ⟨g,0,none⟩) 0 cap] (ρ.t 72) (0,0)):=hbk
       rw [Lib.cell_of_heap this]; rfl
     have hSD:(Builtin.unsafeSliceData_ #[(ρ.t 37)] (ρ.t 127) #[.slice (some ⟨g,0,none⟩) 0 cap]).run P w.drew=.ok (.pointer (some ⟨g,0,none⟩)) w.drew :=
       Lib.run_unsafeSliceData_row _ _ _ _ _ _ hc0
     clear hc0
     go_enter L.f169,Body.n169_ntmps ρ
     go_wp2
     go_region_o
     all_goals (go_wp2; go_ret; exact ⟨rfl,.inl rfl⟩)
variable [Mo]
theorem AL.fy {G:BG} {B:BH} {w w':World} {F:Nat->Prop} {loc:Nat->Option Loc} {s:AB} (hS:AL G B w F loc s) {o:Nat} {l:Loc} {x:O} (ho:loc o=some l) (hot:∀ k,k < w.heap.size->l.block ≠ some k->w'.heap[k]? = w.heap[k]?)
   (hsz:w.heap.size<=w'.heap.size) (hos:w'.os=w.os) (htp:w'.tape=w.tape) (hout:w'.output=w.output) (hdr:w.drawn<=w'.drawn) (hx:Bi w' F loc (some x) l) (hmi:∀ m,s o ≠ some (some (.mi m))) :
   AL G B w' F loc (Ak s o (some (some x)))/\Kept w F w' F:=by
 have hk:Kept w F w' F:=fun k hF=>⟨hF,hot k (hS.BM k hF).1 (fun e=>(hS.own o l k ho e).2.1 hF)⟩
 refine ⟨⟨?_,?_,hS.inj,?_,?_,hS.Ud,hos.trans hS.os,htp.trans hS.tape,hout.trans hS.output,Nat.le_trans hS.size hsz,?_,hS.TT,?_,fun h=>Nat.le_trans (hS.Ub h) hdr⟩,hk⟩
 · intro o' obj h'
   by_cases hod:o' = o
   · subst hod; rw [AA] at h'; cases h'; exact ⟨l,ho,hx⟩
   · rw [AH _ _ hod] at h'
     obtain ⟨l', hl', hr⟩:=hS.Cy o' obj h'
     exact ⟨l', hl', hr.mono hk (Az.refl _) (fun b' hb'=>hot b' (hS.own o' l' b' hl' hb').1 (fun e=>hod (hS.inj o' o l' l b' hl' ho hb' e))) fun c _ _ _ _ ⟨i,hi⟩ hc=>hot c (hS.own i _ c hi rfl).1 fun e=>by
       obtain ⟨m,hm⟩:=hS.PM ho e hc
       exact hmi m hm⟩
 · intro o' l' hl'
   by_cases hod:o' = o
   · subst hod; exact ⟨_,AA _ _ _⟩
   · rw [AH _ _ hod]; exact hS.Gp o' l' hl'
 · intro o' l' b' h1 h2
   have:=hS.own o' l' b' h1 h2
   exact ⟨Nat.lt_of_lt_of_le this.1 hsz,this.2⟩
 · intro b' hb'
   have:=hS.BM b' hb'
   exact ⟨Nat.lt_of_lt_of_le this.1 hsz,this.2⟩
 · intro b' hb' hx'
   rw [hot b' (Nat.lt_of_lt_of_le hb' hS.size) ?_]
   · exact hS.BS b' hb' hx'
   · intro e
     rcases (hS.own o l b' ho e).2.2 with h | h
     · exact hx' h
     · omega
 · intro g cells hg
   obtain ⟨hF,val,hc,hr⟩:=hS.GG g cells hg
   exact ⟨hF,val,fun j hj=>(BL (w:=w) (hk g hF).2).trans (hc j hj),fun j x hj=>(hr j x hj).mono hk⟩
def Lr (tb e:TypeId)(xs:List Int):XS:=[(1000000,some (.bx tb [.sp 1000000,.sl .u 1000001])),(1000001,some (.ar e Aa xs))]
theorem YF {tb e:TypeId} {xs:List Int} {B:BH} {w:World} {F:Nat->Prop} {loc:Nat->Option Loc} (hS:AL AV B w F loc (encS (Lr tb e xs))) :
   ∃ b g cap p cells,loc 1000000=some (.CM b)/\loc 1000001=some (.arr g xs.length cap 1)/\w.heap[b]? = some (.cells #[p,.slice (g.map fun g=>⟨g,0,none⟩) xs.length cap] tb (0,0))/\(p=.pointer none\/p=.pointer (some ⟨b,0,none⟩)) /\
     World.Dq w e 1 (.slice (g.map fun b=>⟨b,0,none⟩) xs.length cap) xs.length cells/\(g=none->xs.length=0/\cap=0)/\cells=xs.map fun n=>Value.int .u8 n:=by
 have h0:encS (Lr tb e xs) 1000000=some (some (.bx tb [.sp 1000000,.sl .u 1000001])):=rfl
 have h1:encS (Lr tb e xs) 1000001=some (some (.ar e 1 (xs.map Aa.en))):=rfl
 obtain ⟨b,cs,hlb,hb,hl,hr⟩:=hS.var (o:=1000000) (by unfold Mc.get; rw [h0])
 obtain ⟨g,cap,cells,hlg,_,hrl,hown,hone,hrow⟩:=hS.row (o:=1000001) (by unfold Mc.get; rw [h1])
 have hml:(xs.map Aa.en).length=xs.length:=List.length_map _
 rw [hml] at hlg hown
 obtain ⟨p,hp,_,rp⟩:=hr 0 _ rfl
 obtain ⟨v,hv,_,rv⟩:=hr 1 _ rfl
 obtain ⟨hv', _,_,hn0⟩:=Cc rv hlg
 refine ⟨b,g,cap,p,cells,hlb,hlg,?_,?_,hown,hn0,?_⟩
 · rw [hb]
   congr 2
   apply Array.ext'
   have hl2:cs.toList.length=2:=by rw [Array.length_toList]; exact hl.symm
   rw [<- Array.getElem?_toList] at hp hv
   match h:cs.toList,hl2,hp,hv with
   | [a,c],_,hp,hv =>
     cases hp; cases hv
     rw [hv']
 · cases rp with
   | gone _ o' _ hx ho=>cases hx; rw [hlb] at ho; cases ho
   | sp _ b' ho=>rw [hlb] at ho; cases ho; exact .inr rfl
   | bV _=>exact .inl rfl
 · apply List.ext_getElem?
   intro i
   have hcl:cells.length=xs.length:=by have:=CI hown; omega
   by_cases hi:i < xs.length
   · obtain ⟨u,hu,hrel⟩:=hrow i [.sc (.int .u8 xs[i])] (by
       have e:(xs.map fun n:Int=>[T.sc (.int .u8 n)])[i]? = some [T.sc (.int .u8 xs[i])]:=by rw [List.getElem?_map,List.getElem?_eq_getElem hi]; rfl
       exact e) 0 (.sc (.int .u8 xs[i])) rfl
     rw [Nat.mul_one,Nat.add_zero] at hu
     rw [hu,List.getElem?_map,List.getElem?_eq_getElem hi]
     cases hrel; rfl
   · rw [List.getElem?_eq_none (by omega),List.getElem?_eq_none (by rw [List.length_map]; omega)]
theorem MJ.Wj {f:FuncId} {tb:TypeId}
   (hfresh:∀ b w,w.cell? ⟨b,0,none⟩=some (.pointer none)->w.shape? b=some (tb,2)->w.frozen? ⟨b,0,none⟩=false->Calls P f #[.pointer (some ⟨b,0,none⟩)] w fun e w'=>e=.returned (.tuple #[])/\w' = w.setCell ⟨b,0,none⟩ (.pointer (some ⟨b,0,none⟩)))
   (hused:∀ b w,w.cell? ⟨b,0,none⟩=some (.pointer (some ⟨b,0,none⟩))->Calls P f #[.pointer (some ⟨b,0,none⟩)] w fun e w'=>e=.returned (.tuple #[])/\w' = w)
   (e:TypeId) (xs:List Int):MJ P f [.pt 1000000 0] (Lr tb e xs) (.tp []) (Lr tb e xs):=by
 intro F loc w args hn hS hA
 obtain ⟨b,g,cap,p,cells,hlb,hlg,hb,hp,hown,hn0,hcells⟩:=YF hS
 obtain ⟨v0,hv0,r0⟩:=hA.2 0 _ rfl
 have hv0':=FG r0 hlb
 have hargs:args=[.pointer (some ⟨b,0,none⟩)]:=by
   have hlen:=hA.1
   match args,hlen,hv0 with
   | [a],_,hv0=>cases hv0; rw [hv0']
 subst hargs
 have hu:∀ w', AF w' F loc vU (.tuple #[]):=fun w'=>.tp [] [] (fun _=>.nilIface) rfl (fun j hj=>absurd hj (by simp)) (fun j x hj=>by simp at hj)
 rcases hp with rfl | rfl
 · refine (hfresh b w (by rw [Lib.cell_of_heap hb]; rfl) (by simp [World.shape?,hb]) (by simp [World.frozen?,hb])).mono ?_
   rintro e' w' ⟨rfl,rfl⟩
   have h0:encS (Lr tb e xs) 1000000=some (some (.bx tb [.sp 1000000,.sl .u 1000001])):=rfl
   obtain ⟨b', cs,hlb', hb', hl,hr⟩:=hS.var (o:=1000000) (by unfold Mc.get; rw [h0])
   rw [hlb] at hlb'; cases hlb'
   have hot:∀ k,k ≠ b->(w.setCell ⟨b,0,none⟩ (.pointer (some ⟨b,0,none⟩))).heap[k]? = w.heap[k]? := fun k hk=>by
     simp only [World.setCell,Array.getElem?_modify]
     rw [if_neg (Ne.symm hk)]
   have hnew:(w.setCell ⟨b,0,none⟩ (.pointer (some ⟨b,0,none⟩))).heap[b]? = some (.cells #[.pointer (some ⟨b,0,none⟩),.slice (g.map fun g=>⟨g,0,none⟩) xs.length cap] tb (0,0)):=by
     simp only [World.setCell,Array.getElem?_modify,if_true,hb,Option.map_some]
     rfl
   have hbn:=hS.own 1000000 _ b hlb rfl
   have hk:Kept w F (w.setCell ⟨b,0,none⟩ (.pointer (some ⟨b,0,none⟩))) F:=fun k hF=>⟨hF,hot k (fun e=>hbn.2.1 (e ▸ hF))⟩
   obtain ⟨h1,_⟩:=hS.turn (w':=w.setCell ⟨b,0,none⟩ (.pointer (some ⟨b,0,none⟩))) (x:=.bx tb [.sp 1000000,.sl .u 1000001]) hlb rfl (by simp [World.setCell]) rfl rfl rfl hot
     (.bx _ _ _ b hnew rfl fun j x hj=>by
       match j,hj with
       | 0,hj=>cases hj; exact ⟨_,rfl,rfl,.sp _ b hlb⟩
       | 1,hj =>
         cases hj
         obtain ⟨v,hv,h1c,rv⟩:=hr 1 _ rfl
         rw [hb] at hb'
         cases hb'
         cases hv
         exact ⟨_,rfl,h1c,rv.mono hk (Az.refl _)⟩
       | j+2,hj=>simp at hj) (fun m h=>by rw [h0] at h; cases h)
   have hst:Ak (encS (Lr tb e xs)) 1000000 (some (some (.bx tb [.sp 1000000,.sl .u 1000001])))=encS (Lr tb e xs):=by
     funext k
     by_cases hk:k=1000000
     · subst hk; rw [AA]; rfl
     · rw [AH _ _ hk]
   rw [hst] at h1
   exact ⟨_,F,loc,vU,_,rfl,h1,hu _,rfl,rfl⟩
 · refine (hused b w (by rw [Lib.cell_of_heap hb]; rfl)).mono ?_
   rintro e' w' ⟨rfl,rfl⟩
   exact ⟨_,F,loc,vU,_,rfl,hS,hu _,rfl,rfl⟩
def KR (xs:List Int):Bool:=xs.all fun n=>decide (0<=n) && decide (n < 256)
omit [Mo] in
theorem RJ {xs:List Int}(h:KR xs=true):(xs.map fun n=>Value.int .u8 n)=Lib.byteCells (xs.map fun n=>UInt8.ofNat n.toNat):=by
 unfold Lib.byteCells
 rw [List.map_map]
 refine List.map_congr_left fun n hn=>?_
 have:=List.all_eq_true.1 h n hn
 simp only [Bool.and_eq_true,decide_eq_true_eq] at this
 simp only [Function.comp_apply,UInt8.toNat_ofNat']
 congr 1
 omega
def ij (tb e:TypeId)(xs:List Int):XS:=[(1000001,some (.ar e Aa xs)),(1000000,some (.bx tb [.sp 1000000,.sl .u 1000001]))]
omit [Mo] in
theorem ki (n5 m:Nat)(fr:Nat × Nat)(h:n5 < 1000000):marked (n5+2000000) m n5 fr:=.inr ⟨by omega,by omega,fun h'=>absurd h' (by omega)⟩
theorem MJ.Mv (L:Lays.n169 P ρ) (X:Builder.Extra P ρ) {e:TypeId} (he:e=ρ.t 5\/e=ρ.t 5+2000000) (h5:ρ.t 5 < 1000000) {xs:List Int} (hby:KR xs=true):MJ P (ρ.f 169) [.pt 1000000 0] (Lr (ρ.t 72) e xs) (.s (strOfNums xs)) (ij (ρ.t 72) (ρ.t 5+2000000) xs):=by
 intro F loc w args hn hS hA
 obtain ⟨b,g,cap,p,cells,hlb,hlg,hb,hp,hown,hn0,hcells⟩:=YF hS
 obtain ⟨v0,hv0,r0⟩:=hA.2 0 _ rfl
 have hv0':=FG r0 hlb
 have hargs:args=[.pointer (some ⟨b,0,none⟩)]:=by
   have hlen:=hA.1
   match args,hlen,hv0 with
   | [a],_,hv0=>cases hv0; rw [hv0']
 subst hargs
 have hbuf:∀ g0,g=some g0->∃ cur fr,w.heap[g0]? = some (.cells cur (ρ.t 5) fr)/\xs.length<=cap/\cap<=maxLen/\cur.size=cap * 1/\cur.toList.take (xs.length * 1)=cells:=by
   rintro g0 rfl
   rcases Co hown with ⟨h,_⟩ | ⟨g', cap', cur,te,fr,hv,h2,hm,h3,h4,h5', h6⟩
   · cases h
   · cases hv
     have key:∀ (e te n5:Nat),(e=n5\/e=n5+2000000)->n5 < 1000000->((te=e/\e < 1000000)\/(1000000<=e/\te=e % 1000000))->te=n5:=by
       intro e te n5 h1 h2 h3
       rcases h1 with h1 | h1 <;> rcases h3 with ⟨h3,h4⟩ | ⟨h3,h4⟩ <;> omega
     have hte:te=ρ.t 5:=key e te (ρ.t 5) he h5 (hm.imp (fun h=>⟨h.1,h.2.2⟩) (fun h=>⟨h.1,h.2.1⟩))
     subst hte
     exact ⟨cur,fr,h2,h3,h4,h5', h6⟩
 have h0c:encS (Lr (ρ.t 72) e xs) 1000001=some (some (.ar e 1 (xs.map Aa.en))):=rfl
 obtain ⟨g', cap'', cells', hlg', _,hrl,_,hone,hrow⟩:=hS.row (o:=1000001) (by unfold Mc.get; rw [h0c])
 rw [hlg] at hlg'
 have hml:(xs.map Aa.en).length=xs.length:=List.length_map _
 have done:∀ w', (∀ k,k < w.heap.size->g ≠ some k->w'.heap[k]? = w.heap[k]?)->(∀ g0 cur fr,g=some g0->w.heap[g0]? = some (.cells cur (ρ.t 5) fr)->∃ kc,w'.heap[g0]? = some (.cells cur (ρ.t 5) kc))->w.heap.size<=w'.heap.size->w'.os=w.os->w'.tape=w.tape->w'.output=w.output->w.drawn<=w'.drawn ->
     ∃ v F' loc' r s', Ending.returned (.string (strOfNums xs))=.returned v/\AL AV (Dv loc w F hn) w' F' loc' s' /\ AF w' F' loc' r v/\r=(Mc.X.s (strOfNums xs)).enc/\s' = encS (ij (ρ.t 72) (ρ.t 5+2000000) xs):=by
   intro w' hot hgw hsz hos htp hout hdr
   have hk:Kept w F w' F:=fun k hF=>⟨hF,hot k (hS.BM k hF).1 (fun e'=>(hS.own 1000001 _ k hlg e').2.1 hF)⟩
   have hx:Bi w' F loc (some (.ar (ρ.t 5+2000000) 1 (xs.map Aa.en))) (.arr g xs.length cap 1):=by
     have hr':∀ (i:Nat) (r:List T),(xs.map Aa.en)[i]? = some r->∀ (j:Nat) (x:T),r[j]? = some x->∃ v,cells[i * 1+j]? = some v/\BJ w' F x v:=by
       intro i r hi j x hj
       have hi':(xs.map fun n:Int=>[T.sc (.int .u8 n)])[i]? = some r:=hi
       rw [List.getElem?_map,Option.map_eq_some_iff] at hi'
       obtain ⟨n,hn', rfl⟩:=hi'
       cases j with
       | zero =>
         cases hj
         exact ⟨.int .u8 n,by rw [hcells,Nat.mul_one,Nat.add_zero,List.getElem?_map,hn']; rfl,.sc _ rfl⟩
       | succ j=>simp at hj
     have h1':∀ u ∈ cells,u.oneCell' = true:=by
       intro u hu
       rw [hcells] at hu
       obtain ⟨n,_,rfl⟩:=List.mem_map.1 hu
       rfl
     have:=Bi.ar (w:=w') (F:=F) (loc:=loc) (ρ.t 5+2000000) 1 (xs.map Aa.en) g cap cells (by decide) hrl (by
       rw [hml]
       cases hgg:g with
       | none =>
         obtain ⟨h1,h2⟩:=hn0 hgg
         have hc0:cells=[]:=List.eq_nil_of_length_eq_zero (by have:=CI hown; omega)
         rw [h1,h2,hc0]
         exact Oj w' _ 1
       | some g0 =>
         obtain ⟨cur,fr,k1,k2,k3,k4,k5⟩:=hbuf g0 hgg
         obtain ⟨kc,k6⟩:=hgw g0 cur fr hgg k1
         exact GP (by have:=CI hown; omega) k6 (ki (ρ.t 5) _ kc h5) k2 k3 k4 k5) h1' hr'
     rw [hml] at this
     exact this
   obtain ⟨h1,_⟩:=hS.fy (o:=1000001) (w':=w') (x:=.ar (ρ.t 5+2000000) 1 (xs.map Aa.en)) hlg (fun k hk1 hk2=>hot k hk1 hk2) hsz hos htp hout hdr hx (fun m h=>by rw [h0c] at h; cases h)
   refine ⟨_,F,_,_,_,rfl,h1,.t _ _ (.sc _ rfl),rfl,?_⟩
   funext k
   by_cases hk1:k=1000001
   · subst hk1; rw [AA]; rfl
   · rw [AH _ _ hk1]
     have b1:Nat.beq 1000001 k=false:=by rw [<- Bool.not_eq_true,Nat.beq_eq]; exact Ne.symm hk1
     simp only [ij,Lr,encS,lk,b1,cond_false]
 by_cases h0:xs=[]
 · subst h0
   refine (MR L X b g cap p w hb (fun g0 hg0=>?_) (fun h=>(hn0 h).2)).mono ?_
   · obtain ⟨cur,fr,k1,_⟩:=hbuf g0 hg0
     exact ⟨cur,fr,k1⟩
   · rintro e' w' ⟨rfl,h | ⟨o,h⟩⟩
     · subst h
       exact done w.drew (fun _ _ _=>rfl) (fun g0 cur fr _ h=>⟨fr,h⟩) (Nat.le_refl _) rfl rfl rfl (Nat.le_succ _)
     · subst h
       exact done (w.alloc o).drew (fun k hk _=>heap_alloc_old w o hk) (fun g0 cur fr hg0 h=>⟨fr,(heap_alloc_old w o (by
         rcases Nat.lt_or_ge g0 w.heap.size with h' | h'
         · exact h'
         · simp [Array.getElem?_eq_none h'] at h)).trans h⟩) (by simp) rfl rfl rfl (Nat.le_succ _)
 · have hlen0:0 < xs.length:=List.length_pos_iff.2 h0
   obtain ⟨g0,rfl⟩:∃ g0,g=some g0:=by
     cases g with
     | none=>have:=(hn0 rfl).1; omega
     | some g0=>exact ⟨g0,rfl⟩
   obtain ⟨cur,fr,hg,hnc,hcm,hcs,htake⟩:=hbuf g0 rfl
   have hll:(xs.map fun n=>UInt8.ofNat n.toNat).length=xs.length:=List.length_map _
   refine (Ni L X b g0 cap p cur fr (xs.map fun n=>UInt8.ofNat n.toNat) w (by rw [hll]; exact hb) hg (by rw [hll]; exact hnc) hcm (by omega) (by rw [hll,<- RJ hby,<- hcells,<- htake,Nat.mul_one]) (by simpa using h0)).mono ?_
   rintro e' w' ⟨rfl,rfl⟩
   have hne:xs.length ≠ 0:=by omega
   have hfr:∀ k,k ≠ g0->(w.drew.freeze ⟨g0,0,none⟩ xs.length).heap[k]? = w.heap[k]? := by
     intro k hk
     unfold World.freeze
     rw [if_neg hne]
     simp only [Array.getElem?_modify]
     rw [if_neg (Ne.symm hk)]
     rfl
   rw [hll]
   refine done _ (fun k _ hk=>hfr k (fun e=>hk (by rw [e]))) (fun g1 cur1 fr1 hg1 h=>?_) ?_ ?_ ?_ ?_ ?_
   · cases hg1
     refine ⟨if fr1.1 == fr1.2 then (0,0+xs.length) else (min fr1.1 0,max fr1.2 (0+xs.length)),?_⟩
     unfold World.freeze
     rw [if_neg hne]
     simp only [Array.getElem?_modify,if_true]
     have h':w.drew.heap[g0]? = some (.cells cur1 (ρ.t 5) fr1):=h
     rw [h']; rfl
   all_goals (unfold World.freeze; rw [if_neg hne]; first | rfl | exact Nat.le_succ _ | simp)
end Go.Proofs.YthoimblkpcikdaaGreatDoor.Mc
namespace Go.Proofs.YthoimblkpcikdaaGreatDoor.Mc
open Go.RowKit Go.Sort
variable {P:Program}
variable [Mo]
theorem AL.bc {B:BH} {w:World} {F:Nat->Prop} {loc:Nat->Option Loc} {s:AB} (hS:AL AV B w F loc s) {α:Type} [Inhabited α] {en:α->Value} (hp:∀ x,plain (en x)=true) {o e:Nat} {rows:List (List T)} {g cap:Nat} {cells:List Value} {D:Array α} {n:Nat} {os:Array Obj}
   (he1:e < 1000000) (ho:loc o=some (.arr (some g) rows.length cap 1)) (hown:w.ownsRow 0 e 1 (.slice (some ⟨g,0,none⟩) rows.length cap) rows.length cells) (hD:D.size=rows.length) :
   AL AV B (sortWorld en w g 0 n D os) F loc (Ak s o (some (some (.ar e 1 (D.toList.map fun x=>[T.sc (en x)]))))):=by
 obtain ⟨cur,hg,hnc,hcm,hcs,htake⟩:∃ cur,w.heap[g]? = some (.cells cur e (0,0))/\rows.length<=cap/\cap<=maxLen/\cur.size=cap * 1/\cur.toList.take (rows.length * 1)=cells:=by
   rcases hown.2 with ⟨h,_⟩ | ⟨g', cap', cur,hv,_,h2,h3,h4,h5,h6⟩
   · cases h
   · cases hv; exact ⟨cur,h2,h3,h4,h5,h6⟩
 let w1:=putRow en w g 0 D
 have hg1:w1.heap[g]? = some (.cells (putCells en 0 D cur) e (0,0)):=by
   simp only [w1,putRow,mapBlock,Array.getElem?_modify,hg,if_true,Option.map_some,onCells]
 have hot:∀ k,k ≠ g->w1.heap[k]? = w.heap[k]? := fun k hk=>by
   simp only [w1,putRow,mapBlock,Array.getElem?_modify]
   rw [if_neg (Ne.symm hk)]
 have hcell:∀ (i:Nat) (x:α),D[i]? = some x->(putCells en 0 D cur)[i]? = some (en x):=by
   intro i x hx
   have hi:i < D.size:=(Array.getElem?_eq_some_iff.1 hx).1
   have hic:i < cur.size:=by omega
   simp only [putCells,Array.getElem?_mapIdx,Array.getElem?_eq_getElem hic,Option.map_some,Nat.zero_add,Nat.zero_le,true_and,if_pos hi,Nat.sub_zero]
   rw [getElem!_pos D i hi]
   congr 2
   exact Option.some.inj ((Array.getElem?_eq_getElem hi).symm.trans hx)
 have hlen:(D.toList.map fun x=>[T.sc (en x)]).length=rows.length:=by rw [List.length_map,Array.length_toList]; exact hD
 have hx:Bi w1 F loc (some (.ar e 1 (D.toList.map fun x=>[T.sc (en x)]))) (.arr (some g) rows.length cap 1):=by
   have:=Bi.ar (w:=w1) (F:=F) (loc:=loc) e 1 (D.toList.map fun x=>[T.sc (en x)]) (some g) cap ((putCells en 0 D cur).toList.take rows.length) (by decide) (by
     intro r hr; obtain ⟨x,_,rfl⟩:=List.mem_map.1 hr; rfl) (by
     rw [hlen]
     refine Bj ⟨?_,.inr ⟨g,cap,_,rfl,Nat.zero_le _,hg1,hnc,hcm,?_,by rw [Nat.mul_one]⟩⟩ he1
     · simp [putCells]; omega
     · simp [putCells]; omega) (by
     intro u hu
     obtain ⟨i,hi⟩:=List.getElem?_of_mem hu
     rw [List.getElem?_take] at hi
     split at hi
     · rename_i hlt
       have hiD:i < D.size:=by omega
       rw [Array.getElem?_toList,hcell i _ (Array.getElem?_eq_getElem hiD)] at hi
       cases hi; exact GW (hp _)
     · cases hi) (by
     intro i r hi j x hj
     rw [List.getElem?_map] at hi
     obtain ⟨y,hy,rfl⟩:=Option.map_eq_some_iff.1 hi
     rw [Array.getElem?_toList] at hy
     have hiD:i < D.size:=(Array.getElem?_eq_some_iff.1 hy).1
     cases j with
     | zero =>
       cases hj
       refine ⟨en y,?_,.sc _ (hp _)⟩
       rw [List.getElem?_take,if_pos (by omega),Nat.mul_one,Nat.add_zero,Array.getElem?_toList]
       exact hcell i y hy
     | succ j=>simp at hj)
   rwa [hlen] at this
 obtain ⟨h1,hk⟩:=hS.turn (w':=w1) ho rfl (by simp [w1]) rfl rfl rfl hot hx (fun m h=>by
   obtain ⟨l,h1,h2⟩:=hS.Cy o _ h
   rw [ho] at h1
   cases h1; cases h2)
 refine h1.below (w':=sortWorld en w g 0 n D os) ?_ (fun _=>?_)
 · have e:sortWorld en w g 0 n D os=grow (Go.Sort.ahead w1 n) os:=by unfold sortWorld; rw [putRow_ahead]
   rw [e]
   exact ⟨rfl,rfl,rfl,by simp [grow],fun k hk=>by simp only [grow,heap_ahead]; rw [Array.getElem?_append_left hk]⟩
 · show w1.drawn<=_
   simp [sortWorld,grow,w1]
def FU:Row:=.int .i64 .nil
def Vr (xs:List Int):Option (List Int):=Ai (decide (xs.length < 4611686018427387904)) (some (xs.mergeSort fun x y=>decide (x<=y)))
theorem MJ.sortInt {ρ:Shelf.Ren} (L:Lays.n189 P ρ) (e:TypeId) (he1:e < 1000000) {xs ys:List Int} (h:Vr xs=some ys) :
   MJ P (ρ.f 189) [.sl .u 1000000] [(1000000,some (.ar e FU xs))] (.tp []) [(1000000,some (.ar e FU ys))]:=by
 obtain ⟨hlen,h⟩:=DY h
 cases h
 have hlen:=of_decide_eq_true hlen
 intro F loc w args hn hS hA
 have ho:encS [(1000000,some (.ar e FU xs))] 1000000=some (some (.ar e 1 (xs.map FU.en))):=rfl
 obtain ⟨b,cap,cells,hl,_,hrl,hownR,h1,hr⟩:=hS.row (o:=1000000) (e:=e) (sz:=1) (rows:=xs.map FU.en) (by unfold Mc.get; rw [ho])
 have hown:=Eu hownR he1
 have hml:(xs.map FU.en).length=xs.length:=List.length_map _
 rw [hml] at hl hown
 obtain ⟨v0,hv0,r0⟩:=hA.2 0 _ rfl
 have hv0':=(Cc r0 hl).1
 have hargs:args=[.slice (b.map fun b=>⟨b,0,none⟩) xs.length cap]:=by
   have hlen:=hA.1
   match args,hlen,hv0 with
   | [a],_,hv0=>cases hv0; rw [hv0']
 subst hargs
 cases xs with
 | nil =>
   refine (Any.slices_Sort_int_none L (b.map fun b=>⟨b,0,none⟩) cap w).mono ?_
   rintro e' w' ⟨rfl,rfl⟩
   exact ⟨_,F,loc,vU,_,rfl,hS,.tp [] [] (fun _=>.nilIface) rfl (fun j hj=>absurd hj (by simp)) (fun j x hj=>by simp at hj),rfl,by rw [List.mergeSort_nil]⟩
 | cons x0 xs0 =>
   obtain ⟨g0,rfl⟩:=Df (Bj hown he1) (by simp)
   generalize hxs:x0 :: xs0=xs at *
   have hgw:=hS.own 1000000 _ g0 hl rfl
   have hH:Holds (Value.int .i64) w g0 0 xs.toArray:=by
     intro j hj
     have hj':j < xs.length:=by simpa using hj
     obtain ⟨cur,hg,hnc,hcm,hcs,htake⟩:∃ cur,w.heap[g0]? = some (.cells cur e (0,0))/\xs.length<=cap/\cap<=maxLen/\cur.size=cap * 1/\cur.toList.take (xs.length * 1)=cells:=by
       rcases hown.2 with ⟨h,_⟩ | ⟨g', cap', cur,hv,_,h2,h3,h4,h5,h6⟩
       · cases h
       · cases hv; exact ⟨cur,h2,h3,h4,h5,h6⟩
     obtain ⟨u,hu,hrel⟩:=hr j [.sc (.int .i64 xs[j])] (by
       have e:(xs.map fun s=>[T.sc (.int .i64 s)])[j]? = some [T.sc (.int .i64 xs[j])]:=by rw [List.getElem?_map,List.getElem?_eq_getElem hj']; rfl
       exact e) 0 (.sc (.int .i64 xs[j])) rfl
     have hu':u=.int .i64 xs[j]:=by cases hrel; rfl
     subst hu'
     refine ⟨?_,?_⟩
     · have:=Ed (Bj hown he1) (g:=g0) rfl hu
       rw [Nat.mul_one,Nat.add_zero] at this
       rw [Nat.zero_add,this,getElem!_pos xs.toArray j hj]
       rfl
     · simp [World.frozen?,hg]
   refine (calls_of_every_depth fun D=>AnyS.slices_Sort_int_alone L D g0 0 cap xs w hH hgw.1 hlen).mono ?_
   rintro e' w' ⟨rfl,n,os,rfl⟩
   have hsd:=hS.bc (he1:=he1) (α:=Int) (en:=Value.int .i64) (fun _=>rfl) (o:=1000000) (e:=e) (rows:=xs.map FU.en) (g:=g0) (cap:=cap) (cells:=cells) (D:=(xs.mergeSort fun x y=>decide (x<=y)).toArray) (n:=n) (os:=os) (by rw [hml]; exact hl) (by rw [hml]; exact hown) (by rw [hml,List.size_toArray,List.length_mergeSort])
   have hst:Ak (encS [(1000000,some (.ar e FU xs))]) 1000000 (some (some (.ar e 1 (((xs.mergeSort fun x y=>decide (x<=y)).toArray).toList.map fun x=>[T.sc (.int .i64 x)]))))=encS [(1000000,some (.ar e FU (xs.mergeSort fun x y=>decide (x<=y))))]:=by
     funext k
     by_cases hk:k=1000000
     · subst hk
       rw [AA]
       rfl
     · rw [AH _ _ hk]
       have hb:Nat.beq 1000000 k=false:=by rw [<- Bool.not_eq_true,Nat.beq_eq]; exact Ne.symm hk
       simp only [encS,lk,hb,cond_false]
   rw [hst] at hsd
   exact ⟨_,F,loc,vU,_,rfl,hsd,.tp [] [] (fun _=>.nilIface) rfl (fun j hj=>absurd hj (by simp)) (fun j x hj=>by simp at hj),rfl,rfl⟩
end Go.Proofs.YthoimblkpcikdaaGreatDoor.Mc
namespace Go.Proofs.YthoimblkpcikdaaGreatDoor.Mc
open Go.RowKit Go.Sort
variable {P:Program}
def Tq (W:World)(F:Nat->Prop)(ts:List T)(vs:List Value):Prop:=ts.length=vs.length/\∀ (j:Nat) (x:T),ts[j]? = some x->∃ v,vs[j]? = some v/\BJ W F x v
theorem Tq.mono {w w':World}{F F':Nat->Prop}(hk:Kept w F w' F'){ts:List T}{vs:List Value}(h:Tq w F ts vs):Tq w' F' ts vs :=
 ⟨h.1,fun j x hj=>by obtain ⟨v,h1,h2⟩:=h.2 j x hj; exact ⟨v,h1,h2.mono hk⟩⟩
theorem Sa {W:World}{F:Nat->Prop}{loc:Nat->Option Loc}{r:Row}{a:r.den}{vs:List Value}(h:Tq W F (r.en a) vs):AF W F loc (X.enc (.ag (r.cells a))) (.agg vs.toArray):=by
 have e:X.enc (.ag (r.cells a))=.ag ((r.en a).map .t):=by
   show V.ag (CG (r.cells a))=_
   rw [Ac,Row.Bp]
 rw [e]
 refine .ag _ vs (fun j=>vs.getD j undef) (by rw [List.length_map]; exact h.1) (fun j hj=>?_) (fun j x hj=>?_)
 · rw [List.length_map,h.1] at hj
   rw [List.getD_eq_getElem?_getD,List.getElem?_eq_getElem hj]; rfl
 · rw [List.getElem?_map] at hj
   obtain ⟨y,hy,rfl⟩:=Option.map_eq_some_iff.1 hj
   obtain ⟨v,h1,h2⟩:=h.2 j y hy
   rw [List.getD_eq_getElem?_getD,h1]
   exact .t _ _ h2
theorem MJ.fh {g:FuncId} {r:Row} {a b:r.den} {n:Int} (h:@MJ ⟨true⟩ P g [.ag (r.cells a),.ag (r.cells b)] [] (.i .i64 n) []) {W:World} {F:Nat->Prop} {va vb:List Value} (hfz:∀ k,F k->k < W.heap.size)
   (hgl:∀ g cells,AV g=some cells->F g/\∃ val:Nat->Value,(∀ j,j < cells.length->W.cell? ⟨g,j,none⟩=some (val j))/\∀ (j:Nat) (x:T),cells[j]? = some x->BJ W F x (val j))
   (ra:Tq W F (r.en a) va) (rb:Tq W F (r.en b) vb) :
   Calls P g #[.agg va.toArray,.agg vb.toArray] W fun e w'=>e=.returned (.int .i64 n)/\∃ q os', w' = grow (W.drewN q) os':=by
 letI:Mo:=⟨true⟩
 have hno:∀ (o:Nat) (l:Loc),(fun _=>none:Nat->Option Loc) o=some l->1000000<=o:=fun _ _ h=>by cases h
 have hS:AL AV (Dv (fun _=>none) W F hno) W F (fun _=>none) (encS []):=by
   refine ⟨?_,?_,?_,?_,fun b hb=>⟨hfz b hb,.inl hb⟩,fun b hb=>hb,rfl,rfl,rfl,Nat.le_refl _,fun _ _ _=>rfl,?_,hgl,fun _=>Nat.le_refl _⟩
   · intro o obj ho; exact absurd (show (none:Option (Option O))=some obj from ho) (by simp)
   · intro o l hl; cases hl
   · intro o o' l l' b h1; cases h1
   · intro o l b h1; cases h1
   · intro o l ho; cases ho
 have hA:CU W F (fun _=>none) ([X.ag (r.cells a),X.ag (r.cells b)].map X.enc) [.agg va.toArray,.agg vb.toArray]:=by
   refine ⟨rfl,fun j x hj=>?_⟩
   match j,hj with
   | 0,hj=>cases hj; exact ⟨_,rfl,Sa ra⟩
   | 1,hj=>cases hj; exact ⟨_,rfl,Sa rb⟩
   | j+2,hj=>simp at hj
 refine (h F (fun _=>none) W [.agg va.toArray,.agg vb.toArray] hno hS hA).mono ?_
 rintro e w' ⟨v,F', loc', r', s', rfl,hS', hr,rfl,rfl⟩
 have hv:v=.int .i64 n:=AU hr
 subst hv
 refine ⟨rfl,w'.drawn - W.drawn,w'.heap.extract W.heap.size w'.heap.size,?_⟩
 have hd:W.drawn<=w'.drawn:=hS'.Ub rfl
 have hsz:W.heap.size<=w'.heap.size:=hS'.size
 have hk:∀ k,k < W.heap.size->w'.heap[k]? = W.heap[k]? := fun k hk=>hS'.BS k hk fun ⟨o,l,h,_⟩=>by cases h
 have e1:=hS'.os
 have e2:=hS'.tape
 have e3:=hS'.output
 obtain ⟨heap', tape', drawn', os', output'⟩:=w'
 simp only at e1 e2 e3 hd hsz hk
 subst e1 e2 e3
 have eh:heap' = W.heap ++ heap'.extract W.heap.size heap'.size:=by
   apply Array.ext_getElem?
   intro k
   by_cases hk':k < W.heap.size
   · rw [Array.getElem?_append_left hk']; exact hk k hk'
   · rw [Array.getElem?_append_right (by omega),Array.getElem?_extract]
     by_cases hk2:k < heap'.size
     · rw [if_pos (by omega)]; congr 1; omega
     · rw [if_neg (by omega),Array.getElem?_eq_none (by omega)]
 simp only [grow,World.drewN]
 congr 1
 omega
variable [Mo]
theorem AL.dy {B:BH} {w:World} {F:Nat->Prop} {loc:Nat->Option Loc} {s:AB} (hS:AL AV B w F loc s) {o e sz:Nat} {rows rows':List (List T)} {g cap:Nat} {cells:List Value} {C:Array Value} {n:Nat} {os:Array Obj}
   (he1:e < 1000000) (hz:0 < sz) (ho:loc o=some (.arr (some g) rows.length cap sz)) (hown:w.ownsRow 0 e sz (.slice (some ⟨g,0,none⟩) rows.length cap) rows.length cells) (hC:C.size=rows.length * sz)
   (hl:rows'.length=rows.length) (hsz:∀ r ∈ rows', r.length=sz) (h1:∀ u ∈ C.toList,u.oneCell' = true)
   (hr:∀ (i:Nat) (r:List T),rows'[i]? = some r->∀ (j:Nat) (x:T),r[j]? = some x->∃ v,C[i * sz+j]? = some v/\BJ w F x v) :
   AL AV B (sortWorld id w g 0 n C os) F loc (Ak s o (some (some (.ar e sz rows')))):=by
 have hg0:=hS.own o _ g ho rfl
 obtain ⟨cur,hg,hnc,hcm,hcs,htake⟩:∃ cur,w.heap[g]? = some (.cells cur e (0,0))/\rows.length<=cap/\cap<=maxLen/\cur.size=cap * sz/\cur.toList.take (rows.length * sz)=cells:=by
   rcases hown.2 with ⟨h,_⟩ | ⟨g', cap', cur,hv,_,h2,h3,h4,h5,h6⟩
   · cases h
   · cases hv; exact ⟨cur,h2,h3,h4,h5,h6⟩
 have hmul:rows.length * sz<=cap * sz:=Nat.mul_le_mul_right _ hnc
 let w1:=putRow id w g 0 C
 have hg1:w1.heap[g]? = some (.cells (putCells id 0 C cur) e (0,0)):=by
   simp only [w1,putRow,mapBlock,Array.getElem?_modify,hg,if_true,Option.map_some,onCells]
 have hot:∀ k,k ≠ g->w1.heap[k]? = w.heap[k]? := fun k hk=>by
   simp only [w1,putRow,mapBlock,Array.getElem?_modify]
   rw [if_neg (Ne.symm hk)]
 have hkept:Kept w F w1 F:=fun b hb=>⟨hb,hot b (fun e=>hg0.2.1 (e ▸ hb))⟩
 have hcell:∀ (i:Nat) (x:Value),C[i]? = some x->(putCells id 0 C cur)[i]? = some x:=by
   intro i x hx
   have hi:i < C.size:=(Array.getElem?_eq_some_iff.1 hx).1
   have hic:i < cur.size:=by omega
   simp only [putCells,Array.getElem?_mapIdx,Array.getElem?_eq_getElem hic,Option.map_some,Nat.zero_add,Nat.zero_le,true_and,if_pos hi,Nat.sub_zero,id]
   rw [getElem!_pos C i hi]
   exact (Array.getElem?_eq_getElem hi).symm.trans hx
 have hx:Bi w1 F loc (some (.ar e sz rows')) (.arr (some g) rows.length cap sz):=by
   have:=Bi.ar (w:=w1) (F:=F) (loc:=loc) e sz rows' (some g) cap ((putCells id 0 C cur).toList.take (rows.length * sz)) hz hsz (by
     rw [hl]
     refine Bj ⟨?_,.inr ⟨g,cap,_,rfl,Nat.zero_le _,hg1,hnc,hcm,?_,rfl⟩⟩ he1
     · simp [putCells]; omega
     · simp [putCells]; omega) (by
     intro u hu
     obtain ⟨i,hi⟩:=List.getElem?_of_mem hu
     rw [List.getElem?_take] at hi
     split at hi
     · rename_i hlt
       have hiD:i < C.size:=by omega
       rw [Array.getElem?_toList,hcell i _ (Array.getElem?_eq_getElem hiD)] at hi
       cases hi
       exact h1 _ (by simp)
     · cases hi) (by
     intro i r hi j x hj
     obtain ⟨v,hv,hrel⟩:=hr i r hi j x hj
     have hil:i < rows.length:=by rw [<- hl]; exact (List.getElem?_eq_some_iff.1 hi).1
     have hjl:j < sz:=by rw [<- hsz r (List.mem_of_getElem? hi)]; exact (List.getElem?_eq_some_iff.1 hj).1
     refine ⟨v,?_,hrel.mono hkept⟩
     rw [List.getElem?_take,if_pos (DR hil hjl),Array.getElem?_toList]
     exact hcell _ _ hv)
   rwa [hl] at this
 obtain ⟨h1,hk⟩:=hS.turn (w':=w1) ho rfl (by simp [w1]) rfl rfl rfl hot hx (fun m h=>by
   obtain ⟨l,h1,h2⟩:=hS.Cy o _ h
   rw [ho] at h1
   cases h1; cases h2)
 refine h1.below (w':=sortWorld id w g 0 n C os) ?_ (fun _=>?_)
 · have e:sortWorld id w g 0 n C os=grow (Go.Sort.ahead w1 n) os:=by unfold sortWorld; rw [putRow_ahead]
   rw [e]
   exact ⟨rfl,rfl,rfl,by simp [grow],fun k hk=>by simp only [grow,heap_ahead]; rw [Array.getElem?_append_left hk]⟩
 · show w1.drawn<=_
   simp [sortWorld,grow,w1]
def PK {α:Type}(cmp:α->α->Option Int)(x y:α):Bool:=match cmp x y with | some n=>decide (n < 0) | none=>false
structure LU {α:Type}(cmp:α->α->Option Int)(xs:List α):Prop where
 some:∀ a ∈ xs,∀ b ∈ xs,∃ n,cmp a b=some n
 irrefl:∀ a ∈ xs,PK cmp a a=false
 trans:∀ a ∈ xs,∀ b ∈ xs,∀ c ∈ xs,PK cmp a b=true->PK cmp b c=true->PK cmp a c=true
 ntrans:∀ a ∈ xs,∀ b ∈ xs,∀ c ∈ xs,PK cmp a b=false->PK cmp b c=false->PK cmp a c=false
 apart:xs.Pairwise fun a b=>PK cmp a b=true\/PK cmp b a=true
 size:xs.length < 4611686018427387904
noncomputable def Lp {α:Type}(cmp:α->α->Option Int)(xs:List α):Option (List α) :=
 open Classical in if LU cmp xs then some (xs.mergeSort fun x y => !(PK cmp y x)) else none
omit [Mo] in
theorem Wl {α:Type}{cmp:α->α->Option Int}{xs ys:List α}(h:Lp cmp xs=some ys):LU cmp xs/\ys=xs.mergeSort fun x y => !(PK cmp y x):=by
 unfold Lp at h
 split at h
 · cases h; exact ⟨by assumption,rfl⟩
 · cases h
omit [Mo] in
theorem Zw {α:Type}{cmp:α->α->Option Int}{xs:List α}(h:LU cmp xs):Lp cmp xs=some (xs.mergeSort fun x y => !(PK cmp y x)):=by
 unfold Lp; rw [if_pos h]
theorem MJ.Xh {ρ:Shelf.Ren} (L:SlLaysF0.n6 P ρ) {r:Row} (aE:∀ w,(isAgg (ρ.t 24)).run P w=.ok true w) (zE:∀ w,(Go.sizeOf (ρ.t 24)).run P w=.ok r.len w) (hz:0 < r.len) {g:FuncId} (eg:∀ args w,(callFunc g args).run P w=.ok (.enter g args) w)
   {cmp:r.den->r.den->Option Int} (hc:∀ a b n,cmp a b=some n->@MJ ⟨true⟩ P g [.ag (r.cells a),.ag (r.cells b)] [] (.i .i64 n) []) (e:TypeId) (he1:e < 1000000) {xs ys:List r.den} (h:Lp cmp xs=some ys) :
   MJ P (ρ.f 6) [.sl .u 1000000,.c (.func (.func g) #[] #[])] [(1000000,some (.ar e r xs))] (.tp []) [(1000000,some (.ar e r ys))]:=by
 obtain ⟨Cd,rfl⟩:=Wl h
 intro F loc w args hn hS hA
 have ho:encS [(1000000,some (.ar e r xs))] 1000000=some (some (.ar e r.len (xs.map r.en))):=rfl
 obtain ⟨b,cap,cells,hl,_,hrl,hownR,h1,hr⟩:=hS.row (o:=1000000) (e:=e) (sz:=r.len) (rows:=xs.map r.en) (by unfold Mc.get; rw [ho])
 have hown:=Eu hownR he1
 have hml:(xs.map r.en).length=xs.length:=List.length_map _
 rw [hml] at hl hown
 obtain ⟨v0,hv0,r0⟩:=hA.2 0 _ rfl
 obtain ⟨v1,hv1,r1⟩:=hA.2 1 _ rfl
 have hv0':=(Cc r0 hl).1
 have hv1':v1=.func (.func g) #[] #[]:=AU r1
 have hargs:args=[.slice (b.map fun b=>⟨b,0,none⟩) xs.length cap,.func (.func g) #[] #[]]:=by
   have hlen:=hA.1
   match args,hlen,hv0,hv1 with
   | [a,c],_,hv0,hv1=>cases hv0; cases hv1; rw [hv0', hv1']
 subst hargs
 by_cases hx0:xs.length=0
 · obtain rfl:=List.eq_nil_of_length_eq_zero hx0
   refine (AnyF.slices_SortFunc_none L (b.map fun b=>⟨b,0,none⟩) cap (.func (.func g) #[] #[]) w).mono ?_
   rintro e' w' ⟨rfl,rfl⟩
   exact ⟨_,F,loc,vU,_,rfl,hS,.tp [] [] (fun _=>.nilIface) rfl (fun j hj=>absurd hj (by simp)) (fun j x hj=>by simp at hj),rfl,by rw [List.mergeSort_nil]⟩
 · obtain ⟨g0,rfl⟩:=Df (Bj hown he1) (by omega)
   let α:=Fin xs.length
   haveI:Inhabited α:=⟨⟨0,by omega⟩⟩
   let d:Array α:=(List.finRange xs.length).toArray
   let cf:α->α->Int:=fun x y=>(cmp xs[x.1] xs[y.1]).getD 0
   have hcf:∀ x y:α,cmp xs[x.1] xs[y.1]=some (cf x y):=fun x y=>by
     obtain ⟨n,hn⟩:=Cd.some xs[x.1] (List.getElem_mem _) xs[y.1] (List.getElem_mem _)
     simp only [cf,hn,Option.getD_some]
   have hlt:∀ x y:α,ltOf cf x y=PK cmp xs[x.1] xs[y.1]:=fun x y=>by
     unfold ltOf PK; rw [hcf x y]
   have hm:∀ x:α,xs[x.1] ∈ xs:=fun x=>List.getElem_mem _
   have hO:SWO (ltOf cf):=⟨fun x=>by rw [hlt]; exact Cd.irrefl _ (hm x),fun x y z=>by simp only [hlt]; exact Cd.trans _ (hm x) _ (hm y) _ (hm z),fun x y z=>by simp only [hlt]; exact Cd.ntrans _ (hm x) _ (hm y) _ (hm z)⟩
   have hT:∀ x y:α,ltOf cf x y=false->ltOf cf y x=false->x=y:=fun x y h1 h2=>by
     rw [hlt] at h1 h2
     rcases Nat.lt_trichotomy x.1 y.1 with h | h | h
     · rcases List.pairwise_iff_getElem.1 Cd.apart x.1 y.1 x.2 y.2 h with q | q
       · rw [h1] at q; cases q
       · rw [h2] at q; cases q
     · exact Fin.ext h
     · rcases List.pairwise_iff_getElem.1 Cd.apart y.1 x.1 y.2 x.2 h with q | q
       · rw [h2] at q; cases q
       · rw [h1] at q; cases q
   have Fg:d.size=xs.length:=by show (List.finRange xs.length).toArray.size=_; rw [List.size_toArray,List.length_finRange]
   have hcl:cells.length=xs.length * r.len:=hown.1
   let en:α->List Value:=fun x=>(cells.drop (x.1 * r.len)).take r.len
   have hrow:∀ x:α,x.1 * r.len+r.len<=xs.length * r.len:=fun x=>by
     have:=Nat.mul_le_mul_right r.len (show x.1+1<=xs.length from x.2)
     rw [Nat.add_mul,Nat.one_mul] at this; exact this
   have hk:∀ x:α,(en x).length=r.len:=fun x=>by
     have:=hrow x
     simp only [en,List.length_take,List.length_drop]; omega
   have hen:∀ (x:α) (j:Nat),j < r.len->(en x)[j]? = cells[x.1 * r.len+j]? := fun x j hj=>by
     simp only [en]
     rw [List.getElem?_take,if_pos hj,List.getElem?_drop]
   have hen1:∀ x:α,∀ v ∈ en x,v.oneCell' = true:=fun x v hv=>h1 v (List.mem_of_mem_drop (List.mem_of_mem_take hv))
   have hrv:∀ x:α,Tq w F (r.en xs[x.1]) (en x):=fun x=>by
     have hxl:(r.en xs[x.1]).length=r.len:=hrl _ (List.mem_map.2 ⟨_,hm x,rfl⟩)
     refine ⟨by rw [hxl,hk],fun j y hj=>?_⟩
     have hjl:j < r.len:=by rw [<- hxl]; exact (List.getElem?_eq_some_iff.1 hj).1
     rw [hen x j hjl]
     exact hr x.1 _ (by rw [List.getElem?_map,List.getElem?_eq_getElem x.2]; rfl) j y hj
   have hgw:=hS.own 1000000 _ g0 hl rfl
   have hfzw:∀ k,F k->k < w.heap.size:=fun k hk=>(hS.BM k hk).1
   have hflat:∀ (D:Array α),D.size=xs.length->∀ (i j:Nat) (hi:i < D.size),j < r.len->(flatK en r.len D)[i * r.len+j]? = cells[D[i].1 * r.len+j]? := by
     intro D hD i j hi hj
     have hlt:i * r.len+j < D.size * r.len:=DR hi hj
     obtain ⟨q1,q2⟩:=LX (i:=i) hj
     rw [Array.getElem?_eq_getElem (by rw [size_flatK]; exact hlt),<- getElem!_pos _ _ (by rw [size_flatK]; exact hlt),get_flatK en r.len D _ hlt,q1,q2,getElem!_pos D i hi,<- hen D[i] j hj,getElem!_pos _ _ (by rw [hk]; exact hj),List.getElem?_eq_getElem]
   have hH:HoldsK en r.len w g0 0 d:=by
     intro t ht
     rw [size_flatK,Fg] at ht
     obtain ⟨cur,hg,hnc,hcm,hcs,htake⟩:∃ cur,w.heap[g0]? = some (.cells cur e (0,0))/\xs.length<=cap/\cap<=maxLen/\cur.size=cap * r.len/\cur.toList.take (xs.length * r.len)=cells:=by
       rcases hown.2 with ⟨h,_⟩ | ⟨g', cap', cur,hv,_,h2,h3,h4,h5,h6⟩
       · cases h
       · cases hv; exact ⟨cur,h2,h3,h4,h5,h6⟩
     have hti:t / r.len < xs.length:=Nat.div_lt_of_lt_mul (by rw [Nat.mul_comm]; exact ht)
     have htj:t % r.len < r.len:=Nat.mod_lt _ hz
     have hte:t / r.len * r.len+t % r.len=t:=by rw [Nat.mul_comm]; exact Nat.div_add_mod t r.len
     have hfl:=hflat d Fg (t / r.len) (t % r.len) (by omega) htj
     rw [hte] at hfl
     have hdi:(d[t / r.len]'(by omega)).1=t / r.len:=by
       show ((List.finRange xs.length).toArray[t / r.len]'_).1=_
       rw [List.getElem_toArray,List.getElem_finRange]; rfl
     rw [hdi,hte] at hfl
     have hu:∃ u,cells[t]? = some u:=⟨_,List.getElem?_eq_getElem (by omega)⟩
     obtain ⟨u,hu⟩:=hu
     refine ⟨?_,?_⟩
     · have:=Ed (Bj hown he1) (g:=g0) rfl hu
       rw [Nat.zero_add,this]
       rw [hu] at hfl
       have hlt2:t < (flatK en r.len d).size:=by rw [size_flatK,Fg]; exact ht
       rw [getElem!_pos (flatK en r.len d) t hlt2]
       rw [Array.getElem?_eq_getElem hlt2] at hfl
       exact hfl.symm
     · simp [World.frozen?,hg]
   let W:=fun (m:Nat) (dk:Array α) (os:Array Obj)=>sortWorldK en r.len w g0 0 m dk os
   have hW:∀ m dk os k,k < w.heap.size->k ≠ g0->(W m dk os).heap[k]? = w.heap[k]? := by
     intro m dk os k hk hne
     simp only [W,sortWorldK,grow,putRowK,putRow,mapBlock,heap_ahead]
     rw [Array.getElem?_append_left (by rw [Array.size_modify]; exact hk),Array.getElem?_modify,if_neg (Ne.symm hne)]
   have hWs:∀ m dk os,w.heap.size<=(W m dk os).heap.size:=fun m dk os=>size_sortWorldK_c en r.len w g0 0 m dk os
   have hcmp:CmpLays P g #[] en r.len cf g0 0 d.size w:=by
     intro m os dk hdk x y
     have hkp:Kept w F (W m dk os) F:=fun k hk=>⟨hk,hW m dk os k (hfzw k hk) (fun e=>hgw.2.1 (e ▸ hk))⟩
     have:=MJ.fh (hc _ _ _ (hcf x y)) (W:=W m dk os) (F:=F) (fun k hk=>Nat.lt_of_lt_of_le (hfzw k hk) (hWs m dk os)) (fun g' cells' hg'=>by
       obtain ⟨hF,val,h2,h3⟩:=hS.GG g' cells' hg'
       exact ⟨hF,val,fun j hj=>(BL (w:=w) (hkp g' hF).2).trans (h2 j hj),fun j z hj=>(h3 j z hj).mono hkp⟩) ((hrv x).mono hkp) ((hrv y).mono hkp)
     exact this
   have hsort:=AnyQ.slices_SortFunc_total L r.len aE zE en hk hen1 cf hO g #[] g0 0 cap d w eg hcmp hH hgw.1 (by rw [Fg]; exact Cd.size) hT
   rw [Fg] at hsort
   refine Calls.mono hsort ?_
   rintro e' w' ⟨rfl,n,os,rfl⟩
   have hperm:(d.toList.mergeSort fun x y => !(ltOf cf) y x).length=xs.length:=by rw [List.length_mergeSort,Array.length_toList,Fg]
   have hmap:(d.toList.mergeSort fun x y => !(ltOf cf) y x).map (fun x:α=>xs[x.1])=xs.mergeSort fun x y => !(PK cmp y x):=by
     rw [List.map_mergeSort (s:=fun x y => !(PK cmp y x)) (fun a _ b _=>by rw [hlt])]
     congr 1
     show ((List.finRange xs.length).toArray.toList).map _=_
     rw [List.toList_toArray]
     exact List.ext_getElem (by simp) fun i h1 h2=>by simp
   obtain ⟨Dl,hDe⟩:∃ Dl,Dl=(d.toList.mergeSort fun x y => !(ltOf cf) y x):=⟨_,rfl⟩
   rw [<- hDe] at hperm hmap ⊢
   have hDs:Dl.toArray.size=xs.length:=by rw [List.size_toArray]; exact hperm
   have hsd:=hS.dy (he1:=he1) (hz:=hz) (o:=1000000) (e:=e) (sz:=r.len) (rows:=xs.map r.en) (rows':=Dl.map fun x=>r.en xs[x.1]) (g:=g0) (cap:=cap) (cells:=cells) (C:=flatK en r.len Dl.toArray) (n:=n) (os:=os) (by rw [hml]; exact hl) (by rw [hml]; exact hown) (by rw [size_flatK,hml,hDs]) (by rw [List.length_map,hml]; exact hperm)
     (fun q hq=>by
       obtain ⟨x,_,rfl⟩:=List.mem_map.1 hq
       exact hrl _ (List.mem_map.2 ⟨_,hm x,rfl⟩))
     (fun u hu=>by
       obtain ⟨t,ht⟩:=List.getElem?_of_mem hu
       rw [Array.getElem?_toList] at ht
       have htl:t < xs.length * r.len:=by
         have:=(Array.getElem?_eq_some_iff.1 ht).1
         rwa [size_flatK,hDs] at this
       have hti:t / r.len < xs.length:=Nat.div_lt_of_lt_mul (by rw [Nat.mul_comm]; exact htl)
       have hte:t / r.len * r.len+t % r.len=t:=by rw [Nat.mul_comm]; exact Nat.div_add_mod t r.len
       have hfl:=hflat Dl.toArray hDs (t / r.len) (t % r.len) (by omega) (Nat.mod_lt _ hz)
       rw [hte,ht] at hfl
       exact h1 u (List.mem_of_getElem? hfl.symm))
     (fun i q hi j x hj=>by
       rw [List.getElem?_map] at hi
       obtain ⟨y,hy,rfl⟩:=Option.map_eq_some_iff.1 hi
       have hil:i < Dl.toArray.size:=by rw [List.size_toArray]; exact (List.getElem?_eq_some_iff.1 hy).1
       have hxl:(r.en xs[y.1]).length=r.len:=hrl _ (List.mem_map.2 ⟨_,hm y,rfl⟩)
       have hjl:j < r.len:=by rw [<- hxl]; exact (List.getElem?_eq_some_iff.1 hj).1
       have hfl:=hflat Dl.toArray hDs i j hil hjl
       have hyi:Dl.toArray[i]=y:=by
         rw [List.getElem_toArray]
         exact Option.some.inj ((List.getElem?_eq_getElem _).symm.trans hy)
       rw [hyi,<- hen y j hjl] at hfl
       rw [hfl]
       exact (hrv y).2 j x hj)
   have hst:Ak (encS [(1000000,some (.ar e r xs))]) 1000000 (some (some (.ar e r.len (Dl.map fun x=>r.en xs[x.1]))))=encS [(1000000,some (.ar e r (xs.mergeSort fun x y => !(PK cmp y x))))]:=by
     rw [<- hmap]
     funext k
     by_cases hk:k=1000000
     · subst hk
       rw [AA]
       show _=some (some (O.ar e r.len (List.map r.en _)))
       rw [List.map_map]
       rfl
     · rw [AH _ _ hk]
       have hb:Nat.beq 1000000 k=false:=by rw [<- Bool.not_eq_true,Nat.beq_eq]; exact Ne.symm hk
       simp only [encS,lk,hb,cond_false]
   rw [hst] at hsd
   exact ⟨_,F,loc,vU,_,rfl,hsd,.tp [] [] (fun _=>.nilIface) rfl (fun j hj=>absurd hj (by simp)) (fun j x hj=>by simp at hj),rfl,rfl⟩
end Go.Proofs.YthoimblkpcikdaaGreatDoor.Mc

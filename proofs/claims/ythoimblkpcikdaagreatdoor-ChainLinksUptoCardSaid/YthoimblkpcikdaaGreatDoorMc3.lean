/- The machine: abstract values and stores, and the laws by which a walk goes through code. Its parts in order. -/
import Derived.Test.YthoimblkpcikdaaGreatDoorMc2
import Derived.Laws.RangeString
import Derived.Lib.AppendStr
import Derived.Lib.ConvBytes
set_option linter.unusedVariables false
set_option linter.unusedSimpArgs false
set_option linter.constructorNameAsVariable false
namespace Go.Proofs.YthoimblkpcikdaaGreatDoor.Mc
open Go.RowKit
variable [Mo]
variable {P:Program}{D:Ay}
def fK (g:XG):X->Option ((r:Row) × List r.den)
 | .fz _ r xs=>some ⟨r,xs⟩
 | .sl _ o=>match gx g o with | some (.ar _ r xs)=>some ⟨r,xs⟩ | _=>none
 | .sw o off len=>match gx g o with | some (.ar _ r xs)=>some ⟨r,(xs.drop off).take len⟩ | _=>none
 | _=>none
omit [Mo] in
theorem Ps {g:XG}{s:AD}(ha:Ap g s){x:X}{r:Row}{xs:List r.den}(h:fK g x=some ⟨r,xs⟩):KI s x.enc=some (xs.map r.en):=by
 unfold fK at h
 split at h
 · cases h; rfl
 · split at h
   · rename_i hgx; cases h; exact iQ rfl (ha.is _ _ (CC hgx))
   · cases h
 · split at h
   · rename_i hgx; cases h; exact iC rfl (ha.is _ _ (CC hgx))
   · cases h
 · cases h
def cx (g:XG)(e:Nat):X->Option (Nl × ((r:Row) × List r.den) × Nat)
 | .sl nl o=>match gx g o with
   | some (.ar e' r xs)=>cond (Nat.beq e' e && Nat.blt e' 1000000) (some (nl,⟨r,xs⟩,o)) none
   | _=>none
 | .sw o 0 len=>match gx g o with
   | some (.ar e' r xs)=>cond (Nat.beq e' e && Nat.blt e' 1000000) (some (.u,⟨r,xs.take len⟩,o)) none
   | _=>none
 | _=>none
omit [Mo] in
theorem Kg {g:XG} {s:AD} (ha:Ap g s) {e:Nat} {x:X} {nl:Nl} {r:Row} {xs:List r.den} {o:Nat} (h:cx g e x=some (nl,⟨r,xs⟩,o)):KE s e r.len x.enc=some (nl,xs.map r.en,some o):=by
 unfold cx at h
 split at h
 · split at h
   · rename_i hgx
     obtain ⟨h1,h2⟩:=AR h
     cases h2
     simp [KE,X.enc,ha.get hgx,XO.enc,h1]
   · cases h
 · split at h
   · rename_i hgx
     obtain ⟨h1,h2⟩:=AR h
     cases h2
     simp [KE,X.enc,ha.get hgx,XO.enc,h1,List.map_take]
   · cases h
 · cases h
def Dc:X->Bool | .c v=>Dp v | _=>false
omit [Mo] in
theorem DW {x:X}(h:Dc x=true):x=.c (.slice none 0 0):=by
 unfold Dc at h
 split at h
 · rw [Ck h]
 · cases h
def Rs (D:Ay) (g:XG) (dst:Option Nat) (t:TypeId) (x y:X):Out :=
 match dst,CN (D.Af t) with
 | some d, some e=>match g d with
   | none => cond (RC D e) (match fK g y with
     | some ⟨r,ys⟩=>cond (Nat.beq r.len (D.size e)) (cond (Dc x)
         (.Ao (decide ((([]:List r.den).length+ys.length) * D.bytes e<=140737488355328)) (.sl .n d) [(d,some (.ar e r (([]:List r.den) ++ ys)))])
         (match cx g e x with
           | some (nl,⟨r', xs⟩,o)=>match Row.eq? r' r with
             | some h=>.Ao (decide (((h.down ▸ xs:List r.den).length+ys.length) * D.bytes e<=140737488355328)) (.sl nl d) [(d,some (.ar e r ((h.down ▸ xs:List r.den) ++ ys))),(o,none)]
             | none=>.bad
           | none=>.bad)) .bad
     | none=>cond (Dc y) (match cx g e x with
         | some (nl,⟨r,xs⟩,o)=>cond (Nat.beq r.len (D.size e)) (.Ao (decide ((xs.length+([]:List r.den).length) * D.bytes e<=140737488355328)) (.sl nl d) [(d,some (.ar e r (xs ++ []))),(o,none)]) .bad
         | none=>.bad) .bad) .bad
   | some _=>.bad
 | _,_=>.bad
theorem QR (hg:Good P D) {g:XG} {o:Oper} {st:St} (ha:Ap g st.s) {t:TypeId} {ox oy:Operand} {x y:X} (hop:o.op=.call ⟨.builtin .append,#[ox,oy],#[t,t]⟩) (hx:ev AW st.t ox=x.enc) (hy:ev AW st.t oy=y.enc) :
   BL P o st (Rs D g o.dst t x y):=by
 unfold Rs
 split
 · rename_i d e hd he
   have hu:=Av he
   split
   · rename_i hn
     have hfree:=ha.no d hn
     refine AG (fun Cc=>?_) (fun _=>trivial)
     split
     · rename_i r ys hs
       have hsr:=Ps ha hs
       refine AG (fun hl=>?_) (fun _=>trivial)
       have hlen:r.len=D.size e:=Nat.eq_of_beq_eq_true hl
       refine AG (fun hnx=>?_) (fun _=>?_)
       · intro hq
         obtain rfl:=DW hnx
         show Ch P AW o st (.sl .n d) (Am st.s d (some (some (.ar e r.len ((([]:List r.den) ++ ys).map r.en)))))
         rw [hlen]
         exact Uo (oo:=none) (enc:=r.en) (xs:=([]:List r.den)) (ys:=ys) hg hop hu Cc hfree (by rw [hx]; simp [KE,X.enc,plain]) (by rw [hy]; exact hsr) (r.wide hl) rfl hq
       · split
         · rename_i nl r' xs n ht
           split
           · rename_i h _
             obtain ⟨h⟩:=h
             subst h
             intro hq
             have htg:=Kg ha ht
             rw [hlen] at htg
             show Ch P AW o st (.sl nl d) (Am (Am st.s n (some none)) d (some (some (.ar e r'.len ((xs ++ ys).map r'.en)))))
             rw [hlen]
             exact Uo (oo:=some n) (enc:=r'.en) (xs:=xs) (ys:=ys) hg hop hu Cc hfree (by rw [hx]; exact htg) (by rw [hy]; exact hsr) (r'.wide hl) rfl hq
           · trivial
         · trivial
     · refine AG (fun hny=>?_) (fun _=>trivial)
       obtain rfl:=DW hny
       split
       · rename_i nl r xs n ht
         refine AG (fun hl=>?_) (fun _=>trivial)
         have hlen:r.len=D.size e:=Nat.eq_of_beq_eq_true hl
         intro hq
         have htg:=Kg ha ht
         rw [hlen] at htg
         show Ch P AW o st (.sl nl d) (Am (Am st.s n (some none)) d (some (some (.ar e r.len ((xs ++ []).map r.en)))))
         rw [hlen]
         exact Uo (oo:=some n) (enc:=r.en) (xs:=xs) (ys:=[]) hg hop hu Cc hfree (by rw [hx]; exact htg) (by rw [hy]; simp [KI,X.enc,plain]) (r.wide hl) rfl hq
       · trivial
   · trivial
 · trivial
def Ad:Row:=.int .u8 .nil
def SH:Option TypeDesc->Bool | some (.int .u8)=>true | _=>false
omit [Mo] in
theorem Fk {o:Option TypeDesc}(h:SH o=true):o=some (.int .u8):=by
 unfold SH at h
 split at h
 · rfl
 · cases h
def Qe:Option Value->Bool | some (.int .u8 n)=>decide (n=0) | _=>false
omit [Mo] in
theorem Qx {o:Option Value}(h:Qe o=true):o=some (.int .u8 0):=by
 unfold Qe at h
 split at h
 · rw [of_decide_eq_true h]
 · cases h
def Ac (s:ByteArray):List Int:=s.data.toList.map fun b=>((b.toNat:Nat):Int)
omit [Mo] in
theorem CR (s:ByteArray):(Ac s).length=s.size:=by
 unfold Ac
 rw [List.length_map,Array.length_toList]; rfl
omit [Mo] in
theorem Ni {t u ty e:TypeId} {i:TypeInfo} (ht:P.underlying t=some (.slice e)) (hu:P.underlying u=some .string) (hi:P.info? e=some i) (hz:i.zero=some (.int .u8 0)) (hsize:i.size=1) (hby:i.bytes=1)
   {w:World} {v:Value} {n:Nat} {xs:List Value} (hown:w.ownsRow 0 e 1 v n xs) (s:ByteArray) (hm0:0 < s.size) (ax:n+s.size<=maxLen) (hbytes:n+s.size<=140737488355328) :
   ∃ g cap w', (Builtin.append_ #[t,u] ty #[v,.string s]).run P w=.ok (.slice (some ⟨g,0,none⟩) (n+s.size) cap) w' /\ w'.ownsRow 0 e 1 (.slice (some ⟨g,0,none⟩) (n+s.size) cap) (n+s.size) (xs ++ Lib.strCells s)/\w.grownBy w' v.ownBlock /\
     (v.ownBlock=some g\/g=w.heap.size)/\g < w'.heap.size/\w.drawn<=w'.drawn:=by
 have hsmall:n+s.size<=9223372036854775807:=by simp only [maxLen] at ax; omega
 have hxl:xs.length=n:=by simpa using hown.1
 have hlen:(xs ++ Lib.strCells s).length=(n+s.size) * 1:=by rw [List.length_append,hxl,Lib.strCells_length,Nat.mul_one]
 have grown:∀ (Jk:Nat),Jk < n+s.size->∀ (row:Option Nat),
     (w.drew.alloc (.cells (xs.toArray ++ (Lib.strCells s).toArray ++ Builtin.zeroCells (Value.int .u8 0).cells (grownCap w (n+s.size) Jk e - (n+s.size))) e)).ownsRow 0 e 1
       (.slice (some ⟨w.heap.size,0,none⟩) (n+s.size) (grownCap w (n+s.size) Jk e)) (n+s.size) (xs ++ Lib.strCells s) /\
     w.grownBy (w.drew.alloc (.cells (xs.toArray ++ (Lib.strCells s).toArray ++ Builtin.zeroCells (Value.int .u8 0).cells (grownCap w (n+s.size) Jk e - (n+s.size))) e)) row:=by
   intro Jk ho row
   have hge:=grownCap_ge w (n+s.size) Jk e
   have hcm:grownCap w (n+s.size) Jk e<=maxLen:=grownCap_le_maxLen w (n+s.size) Jk e ax
   refine ⟨⟨hlen,.inr ⟨w.heap.size,_,_,rfl,Nat.zero_le _,heap_alloc_new w.drew _,hge,hcm,?_,?_⟩⟩,⟨rfl,rfl,rfl,by simp,fun k hk _=>heap_alloc_old w.drew _ hk⟩⟩
   · have hz1:(Value.int IntKind.u8 0).cells.size=1:=rfl
     simp only [Array.size_append,List.size_toArray,size_zeroCells,hz1,hxl,Lib.strCells_length]
     omega
   · simp only [Array.toList_append,List.append_assoc]
     rw [<- List.append_assoc,<- hlen]
     exact List.take_left
 rcases hown.2 with ⟨rfl,rfl⟩ | ⟨g,cap,cur,rfl,hbg,hg,hnc,hcm,hcs,htake⟩
 · have hx:xs=[]:=List.eq_nil_of_length_eq_zero hxl
   subst hx
   have hr:=run_append_nil_string (P:=P) w t u ty e i (.int .u8 0) ht hu hi hz s (by omega) (by omega) (by rw [hby]; omega)
   have hgr:=grown 0 (by omega) (Value.ownBlock (.slice none 0 0))
   simp only [Nat.zero_add,List.nil_append,Array.empty_append] at hgr ⊢
   have e1:(s.data.map fun b=>Value.int .u8 b.toNat)=(Lib.strCells s).toArray:=by
     apply Array.ext'
     simp [Lib.strCells]
   rw [e1] at hr
   exact ⟨_,_,_,hr,hgr.1,hgr.2,.inr rfl,by simp,Nat.le_succ _⟩
 · by_cases hroom:n+s.size<=cap
   · have hcs':cur.size=cap:=by simpa using hcs
     have hr:=Lib.run_append_room_string (P:=P) w t u ty e i ht hu hi hsize g n cap cur hg s hroom (by omega)
     refine ⟨g,cap,_,hr,⟨hlen,.inr ⟨g,cap,_,rfl,hbg,setRow_heap w g cur _ e _ hg,hroom,hcm,?_,?_⟩⟩,⟨rfl,rfl,rfl,by simp,fun k _ hk=>setRow_other w g k _ (fun e=>hk (by simp [Value.ownBlock,e]))⟩,.inl rfl,by simpa using (Array.getElem?_eq_some_iff.1 hg).1,Nat.le_refl _⟩
     · simp only [List.size_toArray,List.length_append,List.length_take,List.length_drop,Array.length_toList,Lib.strCells_length]
       omega
     · have ht':cur.toList.take n=xs:=by simpa using htake
       rw [ht', <- hlen]
       exact List.take_left
   · have holds:∀ j u,xs[j]? = some u->w.cell? ((⟨g,0,none⟩:Addr).add j)=some u:=hown.cells (g:=g) rfl
     have hr:=Lib.run_append_grow_string (P:=P) w t u ty e i (.int .u8 0) ht hu hi hz ⟨g,0,none⟩ n cap xs (by rw [hsize]; simpa using hxl) holds s (by omega) (by omega) (by rw [hby]; exact growslice_fits (by omega) (by omega))
     have hgr:=grown cap (by omega) (Value.ownBlock (.slice (some ⟨g,0,none⟩) n cap))
     exact ⟨_,_,_,hr,hgr.1,hgr.2,.inr rfl,by simp,Nat.le_succ _⟩
omit [Mo] in
theorem Lm {t u e ty:TypeId}{i:TypeInfo}{w:World}{a:Option Addr}{n c:Nat}{s:ByteArray}(ht:P.underlying t=some (.slice e))(hu:P.underlying u=some .string)(hi:P.info? e=some i)(hs:s.size=0)(hn:n<=c) :
   (Builtin.append_ #[t,u] ty #[.slice a n c,.string s]).run P w=.ok (.slice a n c) w:=by
 have hf:=Lib.run_firstCells_string (P:=P) w i.size s
 rw [hs] at hf
 have hn2:Lib.strCells s=[]:=List.eq_nil_of_length_eq_zero (by rw [Lib.strCells_length]; exact hs)
 rw [hn2] at hf
 cases a with
 | none=>simp [Builtin.append_,run_underlying ht,run_underlying hu,sizeOf,typeInfo,hi,Builtin.lenOf,hs,hf,hn]
 | some a=>simp [Builtin.append_,run_underlying ht,run_underlying hu,sizeOf,typeInfo,hi,Builtin.lenOf,hs,hf,hn,storeCells]
omit [Mo] in
theorem LC {s:ByteArray}{F:Nat->Prop}{w:World}{i:Nat}{r:List T}(hi:((Ac s).map Ad.en)[i]? = some r){j:Nat}{x:T}(hj:r[j]? = some x):j=0/\∃ v,(Lib.strCells s)[i]? = some v/\BN w F x v:=by
 have hi':((s.data.toList.map fun b=>((b.toNat:Nat):Int)).map fun n:Int=>[T.sc (.int .u8 n)])[i]? = some r:=hi
 simp only [List.getElem?_map,Option.map_eq_some_iff] at hi'
 obtain ⟨n,⟨b,hb,rfl⟩,rfl⟩:=hi'
 cases j with
 | zero =>
   cases hj
   exact ⟨rfl,_,by unfold Lib.strCells; rw [List.getElem?_map,hb]; rfl,.sc _ rfl⟩
 | succ j=>simp at hj
theorem XI (hg:Good P D) {o:Oper} {st:St} {x y:Operand} {t u e d:Nat} {nl:Nl} {rows:List (List T)} {oo:Option Nat} {s:ByteArray}
   (ho:o.op=.call ⟨.builtin .append,#[x,y],#[t,u]⟩) (hu:D.Af t=some (.slice e)) (hs:D.Af u=some .string) (he:D.Af e=some (.int .u8)) (hz:D.zero e=some (.int .u8 0)) (hp:D.size e=1) (hb:D.bytes e=1)
   (hd:st.s d=none) (htg:KE st.s e 1 (ev AW st.t x)=some (nl,rows,oo)) (hy:ev AW st.t y=vS s) (hby:rows.length+s.size<=140737488355328) :
   Ch P AW o st (.sl nl d) (Am (LN st.s oo) d (some (some (.ar e 1 (rows ++ (Ac s).map Ad.en))))):=by
 intro B F loc a w hR
 have hS:=hR.s
 obtain ⟨hu', _⟩:=hg.Af t _ hu
 obtain ⟨hus,_⟩:=hg.Af u _ hs
 obtain ⟨_,i,hi,hsz,hbt,hzi⟩:=hg.Af e _ he
 obtain ⟨b,cap,cells,hv,hown,hrl,h1,hr,hne,hnn,hn0,hbo,hoo⟩:=(QC hS htg (Aj hR x) (by decide)).out
 have hys:a.eval y=.string s:=by
   have:=Aj hR y
   rw [hy] at this
   exact AV this
 have hcl:cells.length=rows.length:=by have:=hown.1; omega
 have hcat:∀ (i:Nat) (r:List T),(rows ++ (Ac s).map Ad.en)[i]? = some r->∀ (j:Nat) (x:T),r[j]? = some x->∃ v,(cells ++ Lib.strCells s)[i * 1+j]? = some v/\BN w F x v:=by
   intro i r hi j x hj
   rw [List.getElem?_append] at hi
   split at hi
   · rename_i hlt
     have hjl:j < 1:=by have:=(List.getElem?_eq_some_iff.1 hj).1; have:=Bl hrl hi; omega
     obtain ⟨u,hu,hrel⟩:=hr i r hi j x hj
     exact ⟨u,by rw [List.getElem?_append,if_pos (by omega)]; exact hu,hrel⟩
   · rename_i hge
     obtain ⟨rfl,u,hu,hrel⟩:=LC (w:=w) (F:=F) hi hj
     refine ⟨u,?_,hrel⟩
     rw [List.getElem?_append,if_neg (by omega),<- hu]
     congr 1
     omega
 have hrl2:∀ r ∈ rows ++ (Ac s).map Ad.en,r.length=1:=fun r hr=>(List.mem_append.1 hr).elim (hrl r) (fun h=>by
   obtain ⟨n,_,rfl⟩:=List.mem_map.1 h; rfl)
 have h1':∀ u ∈ cells ++ Lib.strCells s,u.oneCell' = true:=fun u hu=>(List.mem_append.1 hu).elim (h1 u) (Lib.strCells_oneCell s u)
 have hob:(a.eval x).ownBlock=b:=by rw [hv]; cases b <;> rfl
 have hll:(rows ++ (Ac s).map Ad.en).length=rows.length+s.size:=by rw [List.length_append]; congr 1; exact (List.length_map _).trans (CR s)
 by_cases hm:s.size=0
 · have hnil:Ac s=[]:=List.eq_nil_of_length_eq_zero (by rw [CR]; exact hm)
   have hcap:rows.length<=cap:=by rw [hv] at hown; exact KH (Bm hown (hg.lt e _ he))
   have hrun:(Builtin.append_ #[t,u] o.type #[a.eval x,a.eval y]).run P w=.ok (a.eval x) w:=by
     rw [hv,hys]; exact Lm hu' hus hi hm hcap
   have e0:rows ++ (Ac s).map Ad.en=rows:=by rw [hnil]; exact List.append_nil _
   rw [e0]
   have hx:∀ loc', BC loc loc' -> Kept w F w F->Bo w F loc' (some (.ar e 1 rows)) (.arr b rows.length cap 1):=by
     intro loc' _ _
     exact .ar e _ rows b cap cells (by decide) hrl (by rw [hv] at hown; exact Bm hown (hg.lt e _ he)) h1 hr
   have hgb:w.grownBy w none:=⟨rfl,rfl,rfl,Nat.le_refl _,fun _ _ _=>rfl⟩
   obtain ⟨hS', hk,hsm⟩:=hS.replace (oo:=oo) (row:=none) (d:=d) (x:=.ar e 1 rows) (l:=.arr b rows.length cap 1) hd hoo (HJ htg) hgb (fun _ h=>by cases h) (fun g hg=>by
     obtain ⟨o', l', h1,h2,h3⟩:=hbo g hg
     exact ⟨.inl ⟨o', l', h1,h2,h3⟩,(hS.own o' l' g h2 h3).1⟩) hx
   refine ⟨F,_,w,a.eval x,_,EW ho hrun,.inl rfl,hS', hk,hsm,?_⟩
   rw [hv]
   exact .sl _ _ b _ cap 1 (AA _ _ _) hne hnn hn0
 · obtain ⟨g,cap', w', hrun,hown', hgb,hplace,hgs,hdr⟩:=Ni (P:=P) (ty:=o.type) hu' hus hi (hzi.trans hz) (hsz.trans hp) (hbt.trans hb) hown s (by omega) (Nat.le_trans (show rows.length+s.size<=9223372036854775807 by omega) NK) hby
   have hx:∀ loc', BC loc loc' -> Kept w F w' F->Bo w' F loc' (some (.ar e 1 (rows ++ (Ac s).map Ad.en))) (.arr (some g) (rows ++ (Ac s).map Ad.en).length cap' 1):=by
     intro loc' _ hk
     refine .ar e _ _ (some g) cap' (cells ++ Lib.strCells s) (by decide) hrl2 (by rw [hll]; exact Bm hown' (hg.lt e _ he)) h1' fun i r hi j x hj=>?_
     obtain ⟨u,hu,hrel⟩:=hcat i r hi j x hj
     exact ⟨u,hu,hrel.mono hk⟩
   obtain ⟨hS', hk,hsm⟩:=hS.replace (oo:=oo) (row:=b) (d:=d) (x:=.ar e 1 (rows ++ (Ac s).map Ad.en)) (l:=.arr (some g) (rows ++ (Ac s).map Ad.en).length cap' 1) hd hoo (HJ htg) (by rw [<- hob]; exact hgb) hbo (fun g' hg'=>by
     cases hg'
     refine ⟨?_,hgs⟩
     rcases hplace with h | h
     · rw [hob] at h; exact .inl (hbo g h)
     · exact .inr (by omega)) hx hdr
   refine ⟨F,_,w', _,_,EW ho (by rw [hys]; exact hrun),.inl rfl,hS', hk,hsm,?_⟩
   have:=AH.sl (w:=w') (F:=F) (loc:=Am (GZ loc oo) d (some (.arr (some g) (rows ++ (Ac s).map Ad.en).length cap' 1))) nl d (some g) _ cap' 1 (AA _ _ _) (fun _=>rfl) (fun _ _=>by rw [hll]; omega) (by simp)
   rw [hll] at this
   simpa [hll] using this
def Gn (s:ByteArray):List Ad.den:=Ac s
def OQ (D:Ay) (g:XG) (dst:Option Nat) (t u:TypeId) (x:X) (s:ByteArray):Out :=
 match dst,CN (D.Af t) with
 | some d, some e=>match g d with
   | none=>cond (SH (D.Af e) && EC (D.Af u) && Qe (D.zero e) && Nat.beq (D.size e) 1 && Nat.beq (D.bytes e) 1) (cond (Dc x)
       (.Ao (decide (([]:List Ad.den).length+s.size<=140737488355328)) (.sl .n d) [(d,some (.ar e Ad (([]:List Ad.den) ++ Gn s)))])
       (match cx g e x with
         | some (nl,⟨r,xs⟩,o)=>match Row.eq? r Ad with
           | some h=>.Ao (decide ((h.down ▸ xs:List Ad.den).length+s.size<=140737488355328)) (.sl nl d) [(d,some (.ar e Ad ((h.down ▸ xs:List Ad.den) ++ Gn s))),(o,none)]
           | none=>.bad
         | none=>.bad)) .bad
   | some _=>.bad
 | _,_=>.bad
theorem PB (hg:Good P D) {g:XG} {o:Oper} {st:St} (ha:Ap g st.s) {t u:TypeId} {ox oy:Operand} {x:X} {s:ByteArray} (hop:o.op=.call ⟨.builtin .append,#[ox,oy],#[t,u]⟩) (hx:ev AW st.t ox=x.enc) (hy:ev AW st.t oy=(X.s s).enc) :
   BL P o st (OQ D g o.dst t u x s):=by
 unfold OQ
 split
 · rename_i d e hd he
   have hu:=Av he
   split
   · rename_i hn
     have hfree:=ha.no d hn
     refine AG (fun Cc=>?_) (fun _=>trivial)
     simp only [Bool.and_eq_true] at Cc
     obtain ⟨⟨⟨⟨k1,k2⟩,k3⟩,k4⟩,k5⟩:=Cc
     have k1:=Fk k1
     have k2:=Bc k2
     have k3:=Qx k3
     have k4:D.size e=1:=Nat.eq_of_beq_eq_true k4
     have k5:D.bytes e=1:=Nat.eq_of_beq_eq_true k5
     refine AG (fun hnx=>?_) (fun _=>?_)
     · intro hq
       obtain rfl:=DW hnx
       show Ch P AW o st (.sl .n d) (Am st.s d (some (some (.ar e 1 ((([]:List Ad.den) ++ Gn s).map Ad.en)))))
       exact XI (oo:=none) (rows:=[]) hg hop hu k2 k1 k3 k4 k5 hfree (by rw [hx]; simp [KE,X.enc,plain]) hy (by simpa using of_decide_eq_true hq)
     · split
       · rename_i nl r xs n ht
         split
         · rename_i h _
           obtain ⟨h⟩:=h
           subst h
           intro hq
           have htg:=Kg ha ht
           show Ch P AW o st (.sl nl d) (Am (Am st.s n (some none)) d (some (some (.ar e 1 ((xs ++ Gn s).map Ad.en)))))
           rw [List.map_append]
           exact XI (oo:=some n) hg hop hu k2 k1 k3 k4 k5 hfree (by rw [hx]; exact htg) hy (by rw [List.length_map]; exact of_decide_eq_true hq)
         · trivial
       · trivial
   · trivial
 · trivial
def cp (g:XG)(r:Row):Nat->List (Nat × X)->Option (List r.den)
 | _,[]=>some []
 | k,(i,v) :: rest=>cond (Nat.beq i k && GR g v) (match r.BG (Ba v),cp g r (k+1) rest with
   | some a,some az=>some (a :: az)
   | _,_=>none) none
omit [Mo] in
theorem BT.refl:∀ (l:List T),BT l l
 | []=>.nil
 | x :: l=>.cons _ _ _ _ (.refl x) (BT.refl l)
omit [Mo] in
theorem PN {g:XG} {s:AD} (ha:Ap g s) {r:Row} {sz:Nat} (hsz:r.len=sz):∀ (parts:List (Nat × X)) (k:Nat) (xs:List r.den) (cells:List V),cp g r k parts=some xs->(k+parts.length) * sz<=cells.length ->
   xs.length=parts.length/\∃ tss:List (List T),tss.length=parts.length/\(∀ (i:Nat) (a:r.den),xs[i]? = some a->∃ ts,tss[i]? = some ts/\BT ts (r.en a))/\(∀ ts ∈ tss,ts.length=sz)/\(∀ v ∈ tss.flatten.map V.t,Mg s v=true) /\
     FC s (fun i=>some (i * sz,sz)) cells (parts.map fun p=>(p.1,p.2.enc))=some (cells.take (k * sz) ++ tss.flatten.map V.t ++ cells.drop ((k+parts.length) * sz))
 | [],k,xs,cells,h,_=>by
   cases h
   exact ⟨rfl,[],rfl,fun i a h=>by simp at h,fun _ h=>by simp at h,fun _ h=>by simp at h,by simp [FC]⟩
 | (i, v) :: rest,k,xs,cells,h,hc=>by
   unfold cp at h
   cases hb:(Nat.beq i k && GR g v) with
   | false=>rw [hb] at h; cases h
   | true =>
     rw [hb] at h
     simp only [Bool.and_eq_true] at hb
     obtain ⟨hik,hsol⟩:=hb
     have hik':=Nat.eq_of_beq_eq_true hik
     subst hik'
     simp only [cond_true] at h
     split at h
     · rename_i a az h1 h2
       cases h
       obtain ⟨hso,hce⟩:=EV ha hsol
       obtain ⟨ts,hts,hw⟩:=r.Bg _ a h1
       rw [hce] at hts
       have hcv:=Ds hts
       have htl:ts.length=sz:=by rw [hw.get.1,r.Cj,hsz]
       have hlen:(Ar v.enc).length=sz:=by rw [hcv,List.length_map,htl]
       simp only [List.length_cons] at hc
       have hmul:(i+(rest.length+1)) * sz=i * sz+sz+rest.length * sz:=by rw [Nat.add_mul,Nat.add_mul]; omega
       have hc1:i * sz+sz<=cells.length:=by omega
       obtain ⟨h3,tss,h4,h5,h6,h7,h8⟩:=PN ha hsz rest (i+1) az (cells.take (i * sz) ++ Ar v.enc ++ cells.drop (i * sz+sz)) h2 (by
         have:(i+1+rest.length) * sz=i * sz+sz+rest.length * sz:=by rw [Nat.add_mul,Nat.add_mul]; omega
         simp only [List.length_append,List.length_take,List.length_drop,hlen]; omega)
       refine ⟨by simp [h3],ts :: tss,by simp [h4],fun j b hj=>?_,fun u hu=>?_,fun u hu=>?_,?_⟩
       · cases j with
         | zero=>cases hj; exact ⟨ts,rfl,hw⟩
         | succ j=>exact h5 j b (by simpa using hj)
       · rcases List.mem_cons.1 hu with rfl | hu
         · exact htl
         · exact h6 u hu
       · rw [List.flatten_cons,List.map_append,List.mem_append] at hu
         rcases hu with hu | hu
         · rw [<- hcv] at hu; exact LB hso u hu
         · exact h7 u hu
       · simp only [List.map_cons,FC,Nq hso,hlen,Nat.beq_refl,Bool.true_and]
         rw [if_pos (by simpa using hc1)]
         rw [h8]
         congr 1
         have e1:(i+1) * sz=i * sz+sz:=by rw [Nat.add_mul,Nat.one_mul]
         have e2:(i+1+rest.length) * sz=i * sz+sz+rest.length * sz:=by rw [Nat.add_mul,Nat.add_mul]; omega
         have t1:(cells.take (i * sz) ++ Ar v.enc).length=i * sz+sz:=by rw [List.length_append,List.length_take,hlen]; omega
         rw [e1,List.take_left' t1,List.drop_append,List.drop_eq_nil_of_le (by omega),List.nil_append,t1,List.drop_drop,e2,List.length_cons,hmul,List.flatten_cons,List.map_append,<- hcv]
         simp only [List.append_assoc]
         congr 4
         omega
     · cases h
omit [Mo] in
theorem LH {sz:Nat}:∀ (tss:List (List T)),(∀ ts ∈ tss,ts.length=sz)->∀ (i:Nat) (ts:List T),tss[i]? = some ts->(tss.flatten.drop (i * sz)).take sz=ts
 | [],_,i,ts,h=>by simp at h
 | t :: tss,hl,0,ts,h=>by
   cases h
   have:=hl t (by simp)
   rw [Nat.zero_mul,List.drop_zero,List.flatten_cons]
   exact List.take_left' this
 | t :: tss,hl,i+1,ts,h=>by
   have ht:=hl t (by simp)
   rw [List.flatten_cons,Nat.add_mul,Nat.one_mul,Nat.add_comm,<- List.drop_drop,List.drop_left' ht]
   exact LH tss (fun x hx=>hl x (by simp [hx])) i ts (by simpa using h)
omit [Mo] in
theorem Tg {e:Nat} {z:List T} (h:CE D e=some z):z.length=D.size e:=by
 unfold CE at h
 split at h
 · rename_i v hv
   split at h
   · rename_i hb
     cases h
     simp only [Bool.and_eq_true] at hb
     have:=Nat.eq_of_beq_eq_true hb.1.2
     simpa using this
   · cases h
 · cases h
omit [Mo] in
theorem Yn {g:XG}{s:AD}(ha:Ap g s){r:Row}{e len:Nat}(hsz:r.len=D.size e){parts:List (Nat × X)}{xs:List r.den}(h:cp g r 0 parts=some xs)(hlen:parts.length=len){z:List T}(hz:CE D e=some z) :
   ∃ rows,Ji D s e len (parts.map fun p=>(p.1,p.2.enc))=some rows/\rows.length=xs.length/\∀ (i:Nat) (r':List T),(xs.map r.en)[i]? = some r' -> ∃ q,rows[i]? = some q/\BT q r':=by
 have hfl:=EU (Tg hz) len
 obtain ⟨h1,tss,h2,h3,h4,h5,h6⟩:=PN ha hsz parts 0 xs ((List.replicate len (z.map V.t)).flatten) h (by rw [hfl,Nat.zero_add,hlen]; exact Nat.le_refl _)
 have h7:(List.replicate len (z.map V.t)).flatten.take (0 * D.size e) ++ tss.flatten.map V.t ++ (List.replicate len (z.map V.t)).flatten.drop ((0+parts.length) * D.size e)=tss.flatten.map V.t:=by
   rw [Nat.zero_mul,List.take_zero,List.nil_append,Nat.zero_add,hlen,<- hfl,List.drop_length,List.append_nil]
 rw [h7] at h6
 refine ⟨(List.range len).map fun i=>(tss.flatten.drop (i * D.size e)).take (D.size e),?_,by simp [h1,hlen],fun i r' hi=>?_⟩
 · unfold Ji
   rw [hz]
   simp only [h6]
   rw [List.all_eq_true.2 h5,FJ]
 · rw [List.getElem?_map] at hi
   obtain ⟨a,ha', rfl⟩:=Option.map_eq_some_iff.1 hi
   obtain ⟨ts,hts,hw⟩:=h3 i a ha'
   have hil:i < len:=by have:=(List.getElem?_eq_some_iff.1 ha').1; omega
   exact ⟨ts,by rw [List.getElem?_map,List.getElem?_range hil]; exact congrArg some (LH tss h4 i ts hts),hw⟩
def GV (D:Ay) (g:XG) (rw? : Option Row) (dst:Option Nat) (t:TypeId) (len:Nat) (parts:List (Nat × X)):Out :=
 match dst,CN (D.Af t),rw? with
 | some d,some e,some r=>match g d with
   | none=>cond (D.has e && Nat.beq r.len (D.size e) && Nat.beq parts.length len && (CE D e).isSome && Nat.ble (len * D.size e) 16777216) (match cp g r 0 parts with
     | some xs=>.ok (.sl .e d) [(d,some (.ar e r xs))]
     | none=>.bad) .bad
   | some _=>.bad
 | _,_,_=>.bad
theorem KS (hg:Good P D) {g:XG} {o:Oper} {st:St} (ha:Ap g st.s) {t:TypeId} {len:Nat} {ops:Array (Nat × Operand)} {parts:List (Nat × X)} {rw? : Option Row} (hop:o.op=.buildSlice t len ops)
   (hp:(ops.toList.map fun p=>(p.1,ev AW st.t p.2))=parts.map fun p=>(p.1,p.2.enc)):BL P o st (GV D g rw? o.dst t len parts):=by
 unfold GV
 split
 · rename_i d e r hd he
   split
   · rename_i hn
     refine AG (fun hc=>?_) (fun _=>trivial)
     simp only [Bool.and_eq_true] at hc
     obtain ⟨⟨⟨⟨h1,h2⟩,h3⟩,h4⟩,h5⟩:=hc
     split
     · rename_i xs hxs
       obtain ⟨z,hz⟩:=Option.isSome_iff_exists.1 h4
       have hlen:r.len=D.size e:=Nat.eq_of_beq_eq_true h2
       obtain ⟨rows,k1,k2,k3⟩:=Yn ha hlen hxs (Nat.eq_of_beq_eq_true h3) hz
       have:=kT (st:=st) (d:=d) hg hop (Av he) h1 (ha.no d hn) (by rw [hp]; exact k1) h5
       have:=this.Fu (n:=d) (rows':=xs.map r.en) (AA _ _ _) (by simp [k2]) k3
       show Ch P AW o st (.sl .e d) (Am st.s d (some (some (.ar e r.len (xs.map r.en)))))
       have hu:∀ (y z:Option (Option O)),Am (Am st.s d y) d z=Am st.s d z:=by
         intro y z; funext m; by_cases hm:m=d
         · subst hm; simp [AA]
         · simp [AM _ _ hm]
       rw [hu] at this
       rw [hlen]; exact this
     · trivial
   · trivial
 · trivial
def QX:Operand->Operand->Bool
 | .tmp i,.tmp j=>Nat.beq i j
 | .const (.int k a),.const (.int k' b)=>decide (k=k' /\ a=b)
 | _,_=>false
def Hl (D:Ay) (g:XG) (rw? : Option Row) (dst:Option Nat) (t:TypeId) (ox oy:Operand) (x:X):Out :=
 match dst,CN (D.Af t),rw? with
 | some d,some e,some r=>match g d,x with
   | none,.i _ n=>match D.zero e with
     | some z=>match r.BG (z.cells.toList.map CG) with
       | some a=>cond (QX ox oy && D.has e && (CE D e).isSome && Nat.beq r.len (D.size e)) (.Ao (decide (0<=n/\n<=9223372036854775807/\D.bytes e * n.toNat<=281474976710656)) (.sl .e d) [(d,some (.ar e r (List.replicate n.toNat a)))]) .bad
       | none=>.bad
     | none=>.bad
   | _,_=>.bad
 | _,_,_=>.bad
omit [Mo] in
theorem Qk {ox oy:Operand}(h:QX ox oy=true){st:St}{k:IntKind}{n:Int}(hx:ev AW st.t ox=vI k n):ev AW st.t oy=vI k n:=by
 unfold QX at h
 split at h
 · rw [<- Nat.eq_of_beq_eq_true h]; exact hx
 · rename_i k1 a k2 b
   have hab:=of_decide_eq_true h
   rw [<- hab.1,<- hab.2]; exact hx
 · cases h
theorem Le (hg : Good P D) {g:XG} {o:Oper} {st:St} (ha:Ap g st.s) {t:TypeId} {ox oy:Operand} {x:X} {rw? : Option Row} (hop:o.op=.makeSlice t ox oy) (hx:ev AW st.t ox=x.enc) :
   BL P o st (Hl D g rw? o.dst t ox oy x):=by
 unfold Hl
 split
 · rename_i d e r hd he
   split
   · rename_i k n hn
     split
     · rename_i z hz
       split
       · rename_i a hra
         refine AG (fun hc=>?_) (fun _=>trivial)
         simp only [Bool.and_eq_true] at hc
         obtain ⟨⟨⟨h1,h2⟩,h3⟩,h4⟩:=hc
         intro hq
         obtain ⟨q1,q2,q3⟩:=of_decide_eq_true hq
         obtain ⟨row,hrow⟩:=Option.isSome_iff_exists.1 h3
         obtain ⟨de,hde⟩:=BV h2
         have hlen:r.len=D.size e:=Nat.eq_of_beq_eq_true h4
         have:=Qi (st:=st) (d:=d) hg hop (Av he) hde (ha.no d hn) hx (Qk h1 hx) hrow q1 q2 q3
         have hw:BT row (r.en a):=by
           obtain ⟨ts,hts,hw⟩:=r.Bg _ a hra
           unfold CE at hrow
           rw [hz] at hrow
           simp only at hrow
           split at hrow
           · rename_i hb
             cases hrow
             simp only [Bool.and_eq_true] at hb
             have hpl:z.cells.toList.all plain=true:=by simpa using hb.1.1
             have h5:(z.cells.toList.map CG).map X.enc=(z.cells.toList.map T.sc).map V.t:=by
               have:=DH hpl
               unfold Fl at this
               rw [if_pos hpl] at this
               simp only [Option.some.injEq] at this
               rw [<- this,List.map_map]; rfl
             rw [h5,FJ] at hts
             cases hts; exact hw
           · cases hrow
         have:=this.Fu (n:=d) (rows':=(List.replicate n.toNat a).map r.en) (AA _ _ _) (by simp) (fun i r' hi=>by
           rw [List.map_replicate] at hi
           obtain ⟨hi1,hi2⟩:=List.getElem?_eq_some_iff.1 hi
           rw [List.getElem_replicate] at hi2
           refine ⟨row,?_,hi2 ▸ hw⟩
           rw [List.getElem?_replicate,if_pos (by simpa using hi1)])
         show Ch P AW o st (.sl .e d) (Am st.s d (some (some (.ar e r.len ((List.replicate n.toNat a).map r.en)))))
         have hu:∀ (y z:Option (Option O)),Am (Am st.s d y) d z=Am st.s d z:=by
           intro y z; funext m; by_cases hm:m=d
           · subst hm; simp [AA]
           · simp [AM _ _ hm]
         rw [hu] at this
         rw [hlen]; exact this
       · trivial
     · trivial
   · trivial
 · trivial
def KO (D:Ay) (g:XG) (src dst:TypeId) (x:X):Out :=
 match CN (D.Af src) with
 | some e=>cond (SH (D.Af e) && EC (D.Af dst)) (cond (Dc x) (.ok (.s (strOfNums [])) []) (match fK g x with
   | some ⟨r,xs⟩=>match Row.eq? r Ad with
     | some h=>.ok (.s (strOfNums (h.down ▸ xs:List Ad.den))) []
     | none=>.bad
   | none=>.bad)) .bad
 | none=>.bad
theorem OR (hg:Good P D) {g:XG} {o:Oper} {st:St} (ha:Ap g st.s) {src dst:TypeId} {ox:Operand} {x:X} (hop:o.op=.convert src dst ox) (hx:ev AW st.t ox=x.enc):BL P o st (KO D g src dst x):=by
 unfold KO
 split
 · rename_i e he
   refine AG (fun hc=>?_) (fun _=>trivial)
   simp only [Bool.and_eq_true] at hc
   refine AG (fun hn=>?_) (fun _=>?_)
   · obtain rfl:=DW hn
     exact Kk (xs:=[]) hg hop (Av he) (Fk hc.1) (Bc hc.2) (by rw [hx]; simp [KI,X.enc,plain])
   · split
     · rename_i r xs hs
       split
       · rename_i h _
         obtain ⟨h⟩:=h
         subst h
         exact Kk (xs:=xs) hg hop (Av he) (Fk hc.1) (Bc hc.2) (by rw [hx]; exact Ps ha hs)
       · trivial
     · trivial
 · trivial
def KJ (D:Ay)(g:XG)(dst:Option Nat)(ts:TypeId)(e:Nat)(s:ByteArray):Out :=
 match dst with
 | some d=>match g d with
   | none=>cond (EC (D.Af ts) && SH (D.Af e)) (.Ao (decide (s.size<=9223372036854775807)) (.sl .e d) [(d,some (.ar (e+1000000) Ad (Gn s)))]) .bad
   | some _=>.bad
 | none=>.bad
theorem TC (hg:Good P D) {o:Oper} {st:St} {x:Operand} {ts td e d:Nat} {s:ByteArray} (hop:o.op=.convert ts td x) (hs:D.Af ts=some .string) (hd':D.Af td=some (.slice e)) (he:D.Af e=some (.int .u8)) (hd:st.s d=none) (hx:ev AW st.t x=vS s) (hm:s.size<=9223372036854775807) :
   Ch P AW o st (.sl .e d) (Am st.s d (some (some (.ar (e+1000000) 1 ((Ac s).map Ad.en))))):=by
 intro B F loc a w hR
 have hS:=hR.s
 have hlt:=hg.lt e _ he
 have hv:a.eval x=.string s:=by
   have:=Aj hR x
   rw [hx] at this
   exact AV this
 have hrun:=Lib.run_convert_string_bytes (P:=P) w ts td e s (hg.Af ts _ hs).1 (hg.Af td _ hd').1 (hg.Af e _ he).1
 have hge:=grownCap_ge w s.size 0 e
 have hcm:=grownCap_le_maxLen w s.size 0 e (Nat.le_trans hm NK)
 have hcs:(Lib.bytesCells w e s).size=grownCap w s.size 0 e:=by
   unfold Lib.bytesCells
   rw [Array.size_append,Array.size_map,Array.size_replicate]
   show s.data.size+(grownCap w s.size 0 e - s.size)=_
   have:s.data.size=s.size:=rfl
   omega
 have hsl:(Lib.strCells s).length=s.size:=by unfold Lib.strCells; rw [List.length_map]; rfl
 have htk:(Lib.bytesCells w e s).toList.take (s.size * 1)=Lib.strCells s:=by
   unfold Lib.bytesCells
   rw [Array.toList_append,Array.toList_map,Nat.mul_one]
   show List.take s.size (Lib.strCells s ++ _)=_
   rw [<- hsl,List.take_left]
 have hll:((Ac s).map Ad.en).length=s.size:=(List.length_map _).trans (CR s)
 have hrl:∀ r ∈ (Ac s).map Ad.en,r.length=1:=fun r hr=>by
   obtain ⟨n,_,rfl⟩:=List.mem_map.1 hr; rfl
 have hgb:w.grownBy (Lib.bytesWorld w e s) none:=⟨rfl,rfl,rfl,by rw [Lib.bytesWorld_size]; omega,fun k hk _=>Lib.bytesWorld_at_old w e s k hk⟩
 obtain ⟨hS', hk,hsm⟩:=hS.replace (oo:=none) (row:=none) (d:=d) (x:=.ar (e+1000000) 1 ((Ac s).map Ad.en)) (l:=.arr (some w.heap.size) s.size (grownCap w s.size 0 e) 1) hd (by simp) (by simp) hgb (by simp) (fun g hg=>by
   cases hg; exact ⟨.inr (Nat.le_refl _),by rw [Lib.bytesWorld_size]; omega⟩) (fun loc' _ hk=>by
   have:=Bo.ar (w:=Lib.bytesWorld w e s) (F:=F) (loc:=loc') (e+1000000) 1 ((Ac s).map Ad.en) (some w.heap.size) (grownCap w s.size 0 e) (Lib.strCells s) (by decide) hrl (by
     rw [hll]
     exact GS (by rw [hsl,Nat.mul_one]) (Lib.bytesWorld_at_new w e s) (.inr ⟨by omega,by omega,fun _=>by rw [hcs]; omega⟩) hge hcm (by rw [hcs,Nat.mul_one]) htk) (Lib.strCells_oneCell s) (fun i r hi j x hj=>by
     obtain ⟨rfl,u,hu,hrel⟩:=LC (w:=Lib.bytesWorld w e s) (F:=F) hi hj
     exact ⟨u,by rw [Nat.mul_one,Nat.add_zero]; exact hu,hrel⟩)
   rw [hll] at this
   exact this) (by simp [Lib.bytesWorld,World.freeze])
 refine ⟨F,_,Lib.bytesWorld w e s,.slice (some ⟨w.heap.size,0,none⟩) s.size (grownCap w s.size 0 e),_,?_,.inl rfl,hS', hk,hsm,?_⟩
 · simp only [execOp,hop]
   rw [hv]
   simp [hrun]
 · exact AH.sl .e d (some w.heap.size) _ _ 1 (AA _ _ _) (fun _=>rfl) (fun h=>by cases h) (by simp)
theorem Ms (hg:Good P D) {g:XG} {o:Oper} {st:St} (ha:Ap g st.s) {ts td e:TypeId} {ox:Operand} {s:ByteArray} (hop:o.op=.convert ts td ox) (hd':D.Af td=some (.slice e)) (hx:ev AW st.t ox=(X.s s).enc):BL P o st (KJ D g o.dst ts e s):=by
 unfold KJ
 split
 · rename_i d hd
   split
   · rename_i hn
     refine AG (fun hc=>?_) (fun _=>trivial)
     simp only [Bool.and_eq_true] at hc
     intro hq
     exact TC hg hop (Bc hc.1) hd' (Fk hc.2) (ha.no d hn) hx (of_decide_eq_true hq)
   · trivial
 · trivial
theorem AO.ZM {B:BK} {w:World} {F:Nat->Prop} {loc:Nat->Option Loc} {s:AD} (hS:AO AW B w F loc s) {o e sz g cap off:Nat} (he1:e < 1000000) {rows new:List (List T)} {cells news:List Value} {cur:Array Value}
   (hlo:loc o=some (.arr (some g) rows.length cap sz)) (hz:0 < sz) (hszz:∀ r ∈ rows,r.length=sz) (hg:w.heap[g]? = some (.cells cur e (0,0))) (hnc:rows.length<=cap) (hcm:cap<=maxLen) (hcs:cur.size=cap * sz)
   (htk:cur.toList.take (rows.length * sz)=cells) (h1c:∀ u ∈ cells,u.oneCell' = true) (hrr:∀ (i:Nat) (r:List T),rows[i]? = some r->∀ (j:Nat) (x:T),r[j]? = some x->∃ v,cells[i * sz+j]? = some v/\BN w F x v)
   (hoff:off+new.length<=rows.length) (hnl:∀ r ∈ new,r.length=sz) (hl:news.length=new.length * sz) (h1:∀ u ∈ news,u.oneCell' = true)
   (hnr:∀ (i:Nat) (r:List T),new[i]? = some r->∀ (j:Nat) (x:T),r[j]? = some x->∃ v,news[i * sz+j]? = some v/\BN w F x v) :
   AO AW B (w.setRow g (cur.toList.take (off * sz) ++ news ++ cur.toList.drop (off * sz+news.length)).toArray) F loc (Am s o (some (some (.ar e sz (rows.take off ++ new ++ rows.drop (off+new.length)))))) /\
     Kept w F (w.setRow g (cur.toList.take (off * sz) ++ news ++ cur.toList.drop (off * sz+news.length)).toArray) F:=by
 have hcap:rows.length * sz<=cur.size:=by rw [hcs]; exact Nat.mul_le_mul_right _ hnc
 have hin:off * sz+news.length<=rows.length * sz:=by rw [hl,<- Nat.add_mul]; exact Nat.mul_le_mul_right _ hoff
 have hlens:(rows.take off ++ new ++ rows.drop (off+new.length)).length=rows.length:=by simp; omega
 have hfull:(cur.toList.take (off * sz) ++ news ++ cur.toList.drop (off * sz+news.length)).length=cur.size:=by simp; omega
 have hnew:∀ k,k < rows.length * sz->(cur.toList.take (off * sz) ++ news ++ cur.toList.drop (off * sz+news.length))[k]? = if off * sz<=k/\k < off * sz+news.length then news[k - off * sz]? else cells[k]? := by
   intro k hk
   have ht2:(cur.toList.take (off * sz)).length=off * sz:=by rw [List.length_take]; simp; omega
   have hck:cells[k]? = cur.toList[k]? := by rw [<- htk,List.getElem?_take,if_pos hk]
   rw [List.append_assoc,List.getElem?_append,ht2]
   by_cases c1:k < off * sz
   · rw [if_pos c1,if_neg (by omega),List.getElem?_take,if_pos c1,hck]
   · rw [if_neg c1,List.getElem?_append]
     by_cases c2:k < off * sz+news.length
     · rw [if_pos (by omega),if_pos (by omega)]
     · rw [if_neg (by omega),if_neg (by omega),List.getElem?_drop,hck]; congr 1; omega
 have hk:Kept w F (w.setRow g (cur.toList.take (off * sz) ++ news ++ cur.toList.drop (off * sz+news.length)).toArray) F:=fun k hF=>⟨hF,setRow_other w g k _ (fun e=>(hS.own o _ g hlo rfl).2.1 (e ▸ hF))⟩
 refine hS.turn hlo rfl Cn.1 rfl rfl rfl Cn.2 ?_ (fun m h=>by
   obtain ⟨l,h1,h2⟩:=hS.DJ o _ h
   rw [hlo] at h1
   cases h1; cases h2)
 rw [<- hlens]
 have hrl2:∀ r ∈ rows.take off ++ new ++ rows.drop (off+new.length),r.length=sz:=by
   intro r hr
   rcases List.mem_append.1 hr with h | h
   · rcases List.mem_append.1 h with h | h
     · exact hszz r (List.mem_of_mem_take h)
     · exact hnl r h
   · exact hszz r (List.mem_of_mem_drop h)
 refine .ar e sz _ (some g) cap ((cur.toList.take (off * sz) ++ news ++ cur.toList.drop (off * sz+news.length)).take (rows.length * sz)) hz hrl2 ?_ ?_ ?_
 · rw [hlens]
   exact Bm ⟨by rw [List.length_take,hfull]; omega,.inr ⟨g,cap,_,rfl,Nat.zero_le _,setRow_heap w g cur _ e (0,0) hg,hnc,hcm,by simpa [hcs] using hfull,rfl⟩⟩ he1
 · intro u hu
   obtain ⟨k,hk'⟩:=List.getElem?_of_mem hu
   rw [List.getElem?_take] at hk'
   split at hk'
   · rename_i hlt
     rw [hnew k hlt] at hk'
     split at hk'
     · exact h1 u (List.mem_of_getElem? hk')
     · exact h1c u (List.mem_of_getElem? hk')
   · cases hk'
 · intro i r hi j x hj
   have hil:i < rows.length:=by have:=(List.getElem?_eq_some_iff.1 hi).1; omega
   have hjl:j < sz:=by have:=(List.getElem?_eq_some_iff.1 hj).1; have:=Bl hrl2 hi; omega
   have key:=Db hil hjl
   rw [List.getElem?_take,if_pos key,hnew _ key]
   have ht1:(rows.take off).length=off:=by rw [List.length_take]; omega
   rw [List.append_assoc,List.getElem?_append,ht1] at hi
   split at hi
   · rename_i hlt
     have h2:=Db hlt hjl
     rw [if_neg (by omega)]
     rw [List.getElem?_take,if_pos hlt] at hi
     obtain ⟨u,hu,hrel⟩:=hrr i r hi j x hj
     exact ⟨u,hu,hrel.mono hk⟩
   · rename_i hge
     rw [List.getElem?_append] at hi
     have h3:off * sz<=i * sz:=Nat.mul_le_mul_right _ (by omega)
     split at hi
     · rename_i hlt
       have h2:=Db hlt hjl
       rw [Nat.sub_mul] at h2
       rw [if_pos (by rw [hl]; omega)]
       obtain ⟨u,hu,hrel⟩:=hnr _ r hi j x hj
       refine ⟨u,?_,hrel.mono hk⟩
       rw [<- hu,Nat.sub_mul]
       congr 1
       omega
     · rename_i hge2
       have h4:(off+new.length) * sz<=i * sz:=Nat.mul_le_mul_right _ (by omega)
       rw [Nat.add_mul] at h4
       rw [if_neg (by rw [hl]; omega)]
       rw [List.getElem?_drop,show off+new.length+(i - off - new.length)=i by omega] at hi
       obtain ⟨u,hu,hrel⟩:=hrr i r hi j x hj
       exact ⟨u,hu,hrel.mono hk⟩
omit [Mo] in
theorem Og {z:Array Value}{n i j:Nat}(hj:j < z.size)(hi:i < n):(Builtin.zeroCells z n).toList[i * z.size+j]? = z[j]? := by
 have h1:=Db hi hj
 have h2:=Lz (i:=i) hj
 unfold Builtin.zeroCells
 rw [Array.getElem?_toList,Array.getElem?_map,Array.getElem?_range,if_pos h1,Option.map_some,h2.2,getElem!_pos z j hj,Array.getElem?_eq_getElem hj]
omit [Mo] in
theorem Nr {ρ:Operand->Value}{o:Oper}{x:Operand}{ts:Array TypeId}{z:Value}{w w':World}(ho:o.op=.call ⟨.builtin .clear,#[x],ts⟩)(h:(Builtin.clear_ ts o.type #[ρ x]).run P w=.ok z w'):(execOp ρ o).run P w=.ok (.value z) w':=by
 simp [execOp,ho,resolve,invoke,builtin,h]
omit [Mo] in
theorem KG {w:World}{F:Nat->Prop}{loc:Nat->Option Loc}:AH w F loc vU (.tuple #[]):=.tp [] [] (fun _=>.nilIface) rfl (fun j hj=>absurd hj (by simp)) (fun j x hj=>by simp at hj)
theorem TJ (hg:Good P D) {o:Oper} {st:St} {x:Operand} {t e e' ob off len:Nat} {rows:List (List T)} {row:List T} (ho:o.op=.call ⟨.builtin .clear,#[x],#[t]⟩) (hu:D.Af t=some (.slice e)) (hd:D.has e=true) (hz:CE D e=some row)
   (he':e' < 1000000) (hob:get st.s ob=some (.ar e' (D.size e) rows)) (hx:(∃ nl,ev AW st.t x=.sl nl ob/\off=0/\len=rows.length)\/ev AW st.t x=.sw ob off len) :
   Ch P AW o st vU (Am st.s ob (some (some (.ar e' (D.size e) (rows.take off ++ List.replicate len row ++ rows.drop (off+len)))))):=by
 intro B F loc a w hR
 have hS:=hR.s
 obtain ⟨de,hde⟩:=BV hd
 obtain ⟨z,hze,hzs,hp,hrl,hrr0⟩:=FU (w:=w) (F:=F) hz
 obtain ⟨hu', _⟩:=hg.Af t _ hu
 obtain ⟨_,i,hi,hsz,hbt,hzi⟩:=hg.Af e _ hde
 obtain ⟨b,cap,cells,hl,_,hszz,hownR,h1c,hrr⟩:=hS.row hob
 have hown:=Ev hownR he'
 have hob':st.s ob=some (some (.ar e' (D.size e) rows)):=get_some hob
 have hv:∃ ad c,a.eval x=.slice ad len c/\off+len<=rows.length/\(0 < len->∃ g,b=some g/\ad=some ⟨g,off * D.size e,none⟩):=by
   have hr:=Aj hR x
   rcases hx with ⟨nl,hx,rfl,rfl⟩ | hx
   · rw [hx] at hr
     obtain ⟨h1,_,_,h4⟩:=Cg hr hl
     refine ⟨_,_,h1,by omega,fun h=>?_⟩
     cases b with
     | none=>have:=(h4 rfl).1; omega
     | some g=>exact ⟨g,rfl,by simp⟩
   · rw [hx] at hr
     obtain ⟨ad,h1,h2,h3,_,_⟩:=Fw hr hl
     exact ⟨ad,_,h1,h2,h3⟩
 obtain ⟨ad,c,hv,hle,hpos⟩:=hv
 cases len with
 | zero =>
   have e0:rows.take off ++ List.replicate 0 row ++ rows.drop (off+0)=rows:=by simp
   have e1:Am st.s ob (some (some (.ar e' (D.size e) rows)))=st.s:=by
     funext k
     by_cases hk:k=ob
     · subst hk; rw [AA,hob']
     · rw [AM _ _ hk]
   rw [e0,e1]
   refine ⟨F,loc,w,.tuple #[],_,Nr ho ?_,.inl rfl,hS,Kept.refl _ _,BC.refl _,KG⟩
   rw [hv]
   cases ad <;> simp [Builtin.clear_,run_underlying hu']
 | succ n =>
   obtain ⟨g,rfl,rfl⟩:=hpos (by omega)
   obtain ⟨cur,hgc,hnc,hcm,hcs,htk⟩:∃ cur,w.heap[g]? = some (.cells cur e' (0,0))/\rows.length<=cap/\cap<=maxLen/\cur.size=cap * D.size e/\cur.toList.take (rows.length * D.size e)=cells:=by
     rcases hown.2 with ⟨h,_⟩ | ⟨g', cap', cur,hv,_,h2,h3,h4,h5,h6⟩
     · cases h
     · cases hv; exact ⟨cur,h2,h3,h4,h5,h6⟩
   have hnews:(Builtin.zeroCells z.cells (n+1)).toList.length=(n+1) * D.size e:=by rw [Array.length_toList,size_zeroCells,hzs]
   have hget:∀ i j,i < n+1->j < D.size e->(Builtin.zeroCells z.cells (n+1)).toList[i * D.size e+j]? = z.cells[j]? := fun i j hi hj=>by
     have:=Og (z:=z.cells) (n:=n+1) (i:=i) (j:=j) (by omega) hi
     rwa [hzs] at this
   have hone:∀ u ∈ (Builtin.zeroCells z.cells (n+1)).toList,u.oneCell' = true:=by
     intro u hu
     obtain ⟨q,hq⟩:=List.getElem?_of_mem hu
     have hql:=(List.getElem?_eq_some_iff.1 hq).1
     rw [hnews] at hql
     have hi':q / D.size e < n+1:=(Nat.div_lt_iff_lt_mul hp).2 hql
     have hj':q % D.size e < D.size e:=Nat.mod_lt _ hp
     have:=hget _ _ hi' hj'
     rw [Nat.mul_comm,Nat.div_add_mod,hq] at this
     obtain ⟨v,hv1,hv2,_⟩:=hrr0 (q % D.size e) row[q % D.size e] (List.getElem?_eq_getElem (by omega))
     rw [hv1] at this
     cases this
     exact hv2
   have hfit:off * D.size e+(Builtin.zeroCells z.cells (n+1)).toList.length<=cur.size:=by
     rw [hnews,<- Nat.add_mul,hcs]
     exact Nat.mul_le_mul_right _ (by omega)
   have hst:=run_storeCells_at P g (off * D.size e) e' (Builtin.zeroCells z.cells (n+1)).toList 0 cur w hgc (by simpa using hfit) hone
   simp only [Nat.add_zero] at hst
   obtain ⟨h1,hk⟩:=hS.ZM (o:=ob) (e:=e') (new:=List.replicate (n+1) row) (off:=off) he' hl hp hszz hgc hnc hcm hcs htk h1c hrr (by rw [List.length_replicate]; exact hle) (fun r hr=>by rw [(List.mem_replicate.1 hr).2]; exact hrl) (by rw [hnews,List.length_replicate]) hone
     (fun i r hi j x hj=>by
       obtain ⟨hi1,hi2⟩:=List.getElem?_eq_some_iff.1 hi
       rw [List.getElem_replicate] at hi2
       subst hi2
       rw [List.length_replicate] at hi1
       obtain ⟨v,hv1,_,hv3⟩:=hrr0 j x hj
       exact ⟨v,by rw [hget i j hi1 (by have:=(List.getElem?_eq_some_iff.1 hj).1; omega)]; exact hv1,hv3⟩)
   rw [List.length_replicate] at h1
   refine ⟨F,loc,_,.tuple #[],_,Nr ho ?_,.inl rfl,h1,hk,BC.refl _,KG⟩
   rw [hv]
   have hzv:(zeroValue e).run P w=.ok z w:=by simp [zeroValue,typeInfo,hi,hzi.trans hze]
   simp [Builtin.clear_,run_underlying hu', hzv,hst]
def WR (D:Ay) (g:XG) (t:TypeId) (x:X):Out :=
 match CN (D.Af t) with
 | some e=>match D.zero e with
   | some z=>match x with
     | .sl _ o=>match gx g o with
       | some (.ar e' r xs)=>match r.BG (z.cells.toList.map CG) with
         | some a=>cond (D.has e && (CE D e).isSome && Nat.beq r.len (D.size e) && Nat.blt e' 1000000) (.ok (.tp []) [(o,some (.ar e' r (List.replicate xs.length a)))]) .bad
         | none=>.bad
       | _=>.bad
     | .sw o off len=>match gx g o with
       | some (.ar e' r xs)=>match r.BG (z.cells.toList.map CG) with
         | some a=>cond (D.has e && (CE D e).isSome && Nat.beq r.len (D.size e) && Nat.blt e' 1000000) (.ok (.tp []) [(o,some (.ar e' r (xs.take off ++ List.replicate len a ++ xs.drop (off+len))))]) .bad
         | none=>.bad
       | _=>.bad
     | _=>.bad
   | none=>.bad
 | none=>.bad
omit [Mo] in
theorem Pq {e:Nat} {z:Value} {row:List T} {r:Row} {a:r.den} (hz:D.zero e=some z) (hrow:CE D e=some row) (hra:r.BG (z.cells.toList.map CG)=some a):BT row (r.en a):=by
 obtain ⟨ts,hts,hw⟩:=r.Bg _ a hra
 unfold CE at hrow
 rw [hz] at hrow
 simp only at hrow
 split at hrow
 · rename_i hb
   cases hrow
   simp only [Bool.and_eq_true] at hb
   have hpl:z.cells.toList.all plain=true:=by simpa using hb.1.1
   have h5:(z.cells.toList.map CG).map X.enc=(z.cells.toList.map T.sc).map V.t:=by
     have:=DH hpl
     unfold Fl at this
     rw [if_pos hpl] at this
     simp only [Option.some.injEq] at this
     rw [<- this,List.map_map]; rfl
   rw [h5,FJ] at hts
   cases hts; exact hw
 · cases hrow
theorem UL (hg : Good P D) {g:XG} {o:Oper} {st:St} (ha:Ap g st.s) {t:TypeId} {ox:Operand} {x:X} (hop:o.op=.call ⟨.builtin .clear,#[ox],#[t]⟩) (hx:ev AW st.t ox=x.enc):BL P o st (WR D g t x):=by
 unfold WR
 have hu:∀ (n:Nat) (y z:Option (Option O)),Am (Am st.s n y) n z=Am st.s n z:=by
   intro n y z; funext m; by_cases hm:m=n
   · subst hm; simp [AA]
   · simp [AM _ _ hm]
 split
 · rename_i e he
   split
   · rename_i z hz
     split
     · rename_i nl ob
       split
       · rename_i e' r xs hgo
         split
         · rename_i a hra
           refine AG (fun hc=>?_) (fun _=>trivial)
           simp only [Bool.and_eq_true] at hc
           obtain ⟨⟨⟨h1,h2⟩,h3⟩,h4⟩:=hc
           have h4':e' < 1000000:=by simpa using h4
           obtain ⟨row,hrow⟩:=Option.isSome_iff_exists.1 h2
           have hlen:r.len=D.size e:=Nat.eq_of_beq_eq_true h3
           have hob:get st.s ob=some (.ar e' (D.size e) (xs.map r.en)):=by rw [<- hlen]; exact ha.get hgo
           have:=TJ (off:=0) (len:=(xs.map r.en).length) hg hop (Av he) h1 hrow h4' hob (.inl ⟨nl,hx,rfl,rfl⟩)
           have:=this.Fu (n:=ob) (rows':=(List.replicate xs.length a).map r.en) (AA _ _ _) (by simp) (fun i r' hi=>by
             rw [List.map_replicate] at hi
             obtain ⟨hi1,hi2⟩:=List.getElem?_eq_some_iff.1 hi
             rw [List.getElem_replicate] at hi2
             refine ⟨row,?_,hi2 ▸ Pq hz hrow hra⟩
             rw [List.take_zero,List.nil_append,Nat.zero_add,List.drop_length,List.append_nil,List.getElem?_replicate,if_pos (by simpa using hi1)])
           rw [hu,<- hlen] at this
           exact this
         · trivial
       · trivial
     · rename_i ob off len
       split
       · rename_i e' r xs hgo
         split
         · rename_i a hra
           refine AG (fun hc=>?_) (fun _=>trivial)
           simp only [Bool.and_eq_true] at hc
           obtain ⟨⟨⟨h1,h2⟩,h3⟩,h4⟩:=hc
           have h4':e' < 1000000:=by simpa using h4
           obtain ⟨row,hrow⟩:=Option.isSome_iff_exists.1 h2
           have hlen:r.len=D.size e:=Nat.eq_of_beq_eq_true h3
           have hob:get st.s ob=some (.ar e' (D.size e) (xs.map r.en)):=by rw [<- hlen]; exact ha.get hgo
           have:=TJ (off:=off) (len:=len) hg hop (Av he) h1 hrow h4' hob (.inr hx)
           have:=this.Fu (n:=ob) (rows':=(xs.take off ++ List.replicate len a ++ xs.drop (off+len)).map r.en) (AA _ _ _) (by simp) (fun i r' hi=>by
             rw [List.map_append,List.map_append,List.map_take,List.map_drop,List.map_replicate] at hi
             rw [List.append_assoc,List.getElem?_append] at hi ⊢
             split at hi
             · rename_i hlt
               rw [if_pos hlt]
               exact ⟨r', hi,BT.refl _⟩
             · rename_i hge
               rw [if_neg hge]
               rw [List.getElem?_append] at hi ⊢
               rw [List.length_replicate] at hi ⊢
               split at hi
               · rename_i hlt
                 rw [if_pos hlt]
                 rw [List.getElem?_replicate,if_pos hlt] at hi ⊢
                 cases hi
                 exact ⟨row,rfl,Pq hz hrow hra⟩
               · rename_i hge2
                 rw [if_neg hge2]
                 exact ⟨r', hi,BT.refl _⟩)
           rw [hu,<- hlen] at this
           exact this
         · trivial
       · trivial
     · trivial
   · trivial
 · trivial
def aK (q:Bool)(a b:X):X :=
 match a,b with
 | .b p,.b r=>.b (cond q p r)
 | a,b=>cond q a b
omit [Mo] in
theorem YE (q:Bool)(a b:X):(aK q a b).enc=cond q a.enc b.enc:=by
 unfold aK
 split
 · cases q <;> rfl
 · cases q <;> rfl
def cn (D:Ay) (g:XG) (op:BinOp) (t:TypeId) (x y:X):Out :=
 cond (Dc y && (CN (D.Af t)).isSome) (match op with
   | .eql=>(match x with
     | .fz .u _ xs=>.Ld xs.isEmpty (.b true) (.b false)
     | .sl .u o=>(match gx g o with | some (.ar _ _ xs)=>.Ld xs.isEmpty (.b true) (.b false) | _=>.bad)
     | .sw o _ len=>cond (Rb (gx g o)) (.Ld (Nat.beq len 0) (.b true) (.b false)) .bad
     | _=>.bad)
   | .neq=>(match x with
     | .fz .u _ xs=>.Ld xs.isEmpty (.b false) (.b true)
     | .sl .u o=>(match gx g o with | some (.ar _ _ xs)=>.Ld xs.isEmpty (.b false) (.b true) | _=>.bad)
     | .sw o _ len=>cond (Rb (gx g o)) (.Ld (Nat.beq len 0) (.b false) (.b true)) .bad
     | _=>.bad)
   | _=>.bad) .bad
omit [Mo] in
theorem aC {t e:TypeId}{w:World}{ox oy:Operand}{ad:Option Addr}{len cap:Nat}(hu:P.underlying t=some (.slice e)) :
   ((do eqGuard .neq t ox oy (.slice ad len cap) (.slice none 0 0); binOp .neq t (.slice ad len cap) (.slice none 0 0):Sem Value)).run P w=.ok (.bool (!isNil (.slice ad len cap))) w:=by
 have:=Kh (w:=w) (P:=P) (t:=t) (x:=.slice ad len cap) (c:=.slice none 0 0) hu rfl
 have hgd:(eqGuard .neq t ox oy (.slice ad len cap) (.slice none 0 0)).run P w=.ok () w:=Ei (by simp) (by simp)
 rw [Sem.run_bind,hgd]
 simp only [Result.andThen_ok,binOp]
 rw [Sem.run_bind,this]; rfl
theorem Gt (hg:Good P D) {o:Oper} {st:St} {op:BinOp} {t q:TypeId} {ox oy:Operand} {x:V} {c p:Bool} (hop:o.op=.binOp op t ox oy q) (hp:(op=.eql/\p=true)\/(op=.neq/\p=false)) (hs:(CN (D.Af t)).isSome=true)
   (hx:ev AW st.t ox=x) (hy:ev AW st.t oy=.t (.sc (.slice none 0 0)))
   (hsem:∀ (B:BK) (F:Nat->Prop) (loc:Nat->Option Loc) (w:World) (tmps:Array Value),Rel AW B F loc st tmps w->∀ v,AH w F loc x v->(∃ a n k,v=.slice a n k)/\(isNil v=true->c=true)):tW P o st c (vB p) (vB !p):=by
 intro B F loc a w hR
 obtain ⟨e,he⟩:=Option.isSome_iff_exists.1 hs
 have hu:=(hg.Af t _ (Av he)).1
 have hvx:=Aj hR ox
 have hvy:=Aj hR oy
 rw [hx] at hvx
 rw [hy] at hvy
 obtain ⟨⟨ad,n,k,hv⟩,hn⟩:=hsem B F loc w _ hR _ hvx
 have hv2:=AV hvy
 have hb:∀ b,AH w F loc (vB b) (.bool b):=fun b=>.t _ _ (.sc _ rfl)
 rcases hp with ⟨rfl,rfl⟩ | ⟨rfl,rfl⟩
 · refine ⟨.bool (isNil (.slice ad n k)),?_,?_⟩
   · simp only [execOp,hop]
     rw [hv,hv2]
     have h:=bH (w:=w) (ox:=ox) (oy:=oy) (ad:=ad) (len:=n) (cap:=k) hu
     rw [Sem.run_bind,h]
     rfl
   · cases hnil:isNil (.slice ad n k) with
     | true=>exact .inl ⟨hn (by rw [hv]; exact hnil),hb _⟩
     | false=>exact .inr (hb _)
 · refine ⟨.bool (!isNil (.slice ad n k)),?_,?_⟩
   · simp only [execOp,hop]
     rw [hv,hv2]
     have h:=aC (w:=w) (ox:=ox) (oy:=oy) (ad:=ad) (len:=n) (cap:=k) hu
     rw [Sem.run_bind,h]
     rfl
   · cases hnil:isNil (.slice ad n k) with
     | true=>exact .inl ⟨hn (by rw [hv]; exact hnil),hb _⟩
     | false=>exact .inr (hb _)
theorem Vg (hg:Good P D) {g:XG} {o:Oper} {st:St} (ha:Ap g st.s) {op:BinOp} {t q:TypeId} {ox oy:Operand} {x y:X} (hop:o.op=.binOp op t ox oy q) (hx:ev AW st.t ox=x.enc) (hy:ev AW st.t oy=y.enc) :
   BL P o st (cn D g op t x y):=by
 unfold cn
 refine AG (fun hc=>?_) (fun _=>trivial)
 simp only [Bool.and_eq_true] at hc
 obtain rfl:=DW hc.1
 have hy':ev AW st.t oy=.t (.sc (.slice none 0 0)):=by rw [hy]; simp [X.enc,plain]
 have fz:∀ {r:Row} {xs:List r.den},∀ (B:BK) (F:Nat->Prop) (loc:Nat->Option Loc) (w:World) (tmps:Array Value),Rel AW B F loc st tmps w->∀ v,AH w F loc (X.enc (.fz .u r xs)) v->(∃ a n k,v=.slice a n k)/\(isNil v=true->xs.isEmpty=true):=by
   intro r xs B F loc w tmps _ v hv
   cases hv with
   | gone _ o _ hx _=>cases hx
   | t _ _ h =>
     obtain ⟨h1,_,_,h4⟩:=Ee h
     refine ⟨h1,fun hn=>?_⟩
     cases xs with
     | nil=>rfl
     | cons x xs=>rw [h4 (by simp)] at hn; cases hn
 have sl:∀ {n:Nat} {e:TypeId} {r:Row} {xs:List r.den},gx g n=some (.ar e r xs)->∀ (B:BK) (F:Nat->Prop) (loc:Nat->Option Loc) (w:World) (tmps:Array Value),Rel AW B F loc st tmps w->∀ v,AH w F loc (X.enc (.sl .u n)) v->(∃ a n k,v=.slice a n k)/\(isNil v=true->xs.isEmpty=true):=by
   intro n e r xs hgx B F loc w tmps hR v hv
   obtain ⟨b,cap,cells,hl,_⟩:=hR.s.row (ha.get hgx)
   obtain ⟨rfl,_,_,h0⟩:=Cg hv hl
   refine ⟨⟨_,_,_,rfl⟩,fun hn=>?_⟩
   cases b with
   | none=>have:=(h0 rfl).1; cases xs with | nil=>rfl | cons=>simp at this
   | some b=>cases hn
 have sw:∀ {n off len:Nat},Rb (gx g n)=true->∀ (B:BK) (F:Nat->Prop) (loc:Nat->Option Loc) (w:World) (tmps:Array Value),Rel AW B F loc st tmps w->∀ v,AH w F loc (X.enc (.sw n off len)) v->(∃ a n k,v=.slice a n k)/\(isNil v=true->Nat.beq len 0=true):=by
   intro n off len h B F loc w tmps hR v hv
   obtain ⟨e,sz,rows,hgx⟩:=HH ha h
   obtain ⟨b,cap,cells,hl,_⟩:=hR.s.row hgx
   obtain ⟨a,rfl,hle,h1,_⟩:=Fw hv hl
   refine ⟨⟨_,_,_,rfl⟩,fun hn=>?_⟩
   cases len with
   | zero=>rfl
   | succ m =>
     obtain ⟨gg,_,rfl⟩:=h1 (by omega)
     cases hn
 split
 · split
   · exact Gt hg hop (.inl ⟨rfl,rfl⟩) hc.2 hx hy' fz
   · split
     · rename_i hgx; exact Gt hg hop (.inl ⟨rfl,rfl⟩) hc.2 hx hy' (sl hgx)
     · trivial
   · exact AG (fun h=>Gt hg hop (.inl ⟨rfl,rfl⟩) hc.2 hx hy' (sw h)) (fun _=>trivial)
   · trivial
 · split
   · exact Gt hg hop (.inr ⟨rfl,rfl⟩) hc.2 hx hy' fz
   · split
     · rename_i hgx; exact Gt hg hop (.inr ⟨rfl,rfl⟩) hc.2 hx hy' (sl hgx)
     · trivial
   · exact AG (fun h=>Gt hg hop (.inr ⟨rfl,rfl⟩) hc.2 hx hy' (sw h)) (fun _=>trivial)
   · trivial
 · trivial
def Vv (D:Ay)(xs ys:List X):List Field->Option Bool
 | []=>some true
 | f :: fs=>cond (f.name == "_") none (match D.Af f.type,xs[f.offset]?,ys[f.offset]? with
   | some (.int _),some (.i k a),some (.i k' b)=>if k=k' then (match Vv D xs ys fs with | some q=>some ((a == b) && q) | none=>none) else none
   | some .bool,some (.b a),some (.b b)=>(match Vv D xs ys fs with | some q=>some ((a == b) && q) | none=>none)
   | some .string,some (.s a),some (.s b)=>(match Vv D xs ys fs with | some q=>some ((a.toList == b.toList) && q) | none=>none)
   | _,_,_=>none)
def bO:X->Bool | .ag _=>true | _=>false
def jF (D:Ay)(op:BinOp)(t:TypeId)(x y:X):Out :=
 match D.Af t,x,y with
 | some (.struct fs),.ag xs,.ag ys=>cond (D.peq t) (match op,Vv D xs ys fs.toList with
   | .eql,some q=>okB q
   | .neq,some q=>okB (!q)
   | _,_=>.bad) .bad
 | _,_,_=>.bad
omit [Mo] in
theorem Er {w:World}{n:Nat}{xs ys:Array Value}{f:Field}{fs:List Field}{a b:Value}{c q:Bool}(hn:¬ f.name = "_")(ha:(part f.type xs f.offset).run P w=.ok a w)(hb:(part f.type ys f.offset).run P w=.ok b w)
   (hc:(Op.equalIn n f.type a b).run P w=.ok c w) (hq:(Op.eqFields n xs ys fs).run P w=.ok q w):(Op.eqFields n xs ys (f :: fs)).run P w=.ok (c && q) w:=by
 rw [Op.eqFields,if_pos hn]
 simp only [Sem.run_bind,ha,hb,hc,Result.andThen_ok]
 cases c
 · simp
 · simp [hq]
omit [Mo] in
theorem JP (hg:Good P D) {w:World} {F:Nat->Prop} {loc:Nat->Option Loc} {n:Nat} {xs ys:List X} {vs ws:List Value} {val wal:Nat->Value}
   (hl:(xs.map X.enc).length=vs.length) (hv:∀ j,j < (xs.map X.enc).length->vs[j]? = some (val j)) (hr:∀ (j:Nat) (x:V),(xs.map X.enc)[j]? = some x->AH w F loc x (val j))
   (hl':(ys.map X.enc).length=ws.length) (hv':∀ j,j < (ys.map X.enc).length->ws[j]? = some (wal j)) (hr':∀ (j:Nat) (x:V),(ys.map X.enc)[j]? = some x->AH w F loc x (wal j)) :
   ∀ (fs:List Field) (q:Bool),Vv D xs ys fs=some q->(Op.eqFields (n+1) vs.toArray ws.toArray fs).run P w=.ok q w
 | [],q,h=>by cases h; rfl
 | f :: fs,q,h=>by
   unfold Vv at h
   cases hn:(f.name == "_") with
   | true=>rw [hn] at h; cases h
   | false =>
     rw [hn] at h
     simp only [cond_false] at h
     have hn':¬ f.name = "_" := by simpa using hn
     have go:∀ {d:TypeDesc} {x y:X} {v u:Value},D.Af f.type=some d->d.isRow=false->xs[f.offset]? = some x->ys[f.offset]? = some y->x.enc=.t (.sc v)->y.enc=.t (.sc u) ->
         (part f.type vs.toArray f.offset).run P w=.ok v w/\(part f.type ws.toArray f.offset).run P w=.ok u w:=by
       intro d x y v u hu hd hx hy ex ey
       constructor
       · obtain ⟨z,hz,hr2⟩:=Ih (F:=F) (loc:=loc) hg (t:=f.type) (cells:=xs.map X.enc) (off:=f.offset) (v:=x.enc) (by simp [FK,hu,hd,hx]) hl hv hr
         rw [ex] at hr2; rw [AV hr2] at hz; exact hz
       · obtain ⟨z,hz,hr2⟩:=Ih (F:=F) (loc:=loc) hg (t:=f.type) (cells:=ys.map X.enc) (off:=f.offset) (v:=y.enc) (by simp [FK,hu,hd,hy]) hl' hv' hr'
         rw [ey] at hr2; rw [AV hr2] at hz; exact hz
     split at h
     · rename_i k0 k a k' b hu hx hy
       split at h
       · rename_i hk
         subst hk
         split at h
         · rename_i q' hq
           cases h
           obtain ⟨h1,h2⟩:=go hu rfl hx hy rfl rfl
           exact Er hn' h1 h2 (run_equalIn_int w n f.type k k0 a b (hg.Af _ _ hu).1) (JP hg hl hv hr hl' hv' hr' fs q' hq)
         · cases h
       · cases h
     · rename_i a b hu hx hy
       split at h
       · rename_i q' hq
         cases h
         obtain ⟨h1,h2⟩:=go hu rfl hx hy rfl rfl
         exact Er hn' h1 h2 (JY n (hg.Af _ _ hu).1) (JP hg hl hv hr hl' hv' hr' fs q' hq)
       · cases h
     · rename_i a b hu hx hy
       split at h
       · rename_i q' hq
         cases h
         obtain ⟨h1,h2⟩:=go hu rfl hx hy rfl rfl
         exact Er hn' h1 h2 (run_equalIn_string w n f.type a b (hg.Af _ _ hu).1) (JP hg hl hv hr hl' hv' hr' fs q' hq)
       · cases h
     · cases h
omit [Mo] in
theorem Tz (hg:Good P D){w:World}{F:Nat->Prop}{loc:Nat->Option Loc}{t:TypeId}{ox oy:Operand}{xs ys:List X}{fs:Array Field}{a b:Value}{q:Bool}(hu:D.Af t=some (.struct fs))(hp:D.peq t=true)(hq:Vv D xs ys fs.toList=some q)
   (ha:AH w F loc (X.enc (.ag xs)) a) (hb:AH w F loc (X.enc (.ag ys)) b) :
   ((do eqGuard .eql t ox oy a b; binOp .eql t a b:Sem Value)).run P w=.ok (.bool q) w/\((do eqGuard .neq t ox oy a b; binOp .neq t a b:Sem Value)).run P w=.ok (.bool !q) w:=by
 rw [X.enc,Ae] at ha hb
 obtain ⟨vs,val,rfl,hl,hv,hr⟩:=HF ha
 obtain ⟨ws,wal,rfl,hl', hv', hr'⟩:=HF hb
 obtain ⟨h1,h2⟩:=hg.peq t hp
 have hu':=(hg.Af t _ hu).1
 have hf:P.fieldsOf t=fs:=by simp [Program.fieldsOf,hu']
 have he:=run_equalIn_agg w 9999 t vs.toArray ws.toArray (by rw [hf]; exact hu') h1
 rw [hf,JP (n:=9998) hg hl hv hr hl' hv' hr' _ _ hq] at he
 constructor
 · rw [Sem.run_bind,run_eqGuard_agg w .eql t ox oy _ _ h2]
   simp only [Result.andThen_ok]
   rw [run_eql_struct,he]; rfl
 · rw [Sem.run_bind,run_eqGuard_agg w .neq t ox oy _ _ h2]
   simp only [Result.andThen_ok]
   rw [run_neq_struct,he]; rfl
theorem Ym (hg:Good P D) {o:Oper} {st:St} {op:BinOp} {t q:TypeId} {ox oy:Operand} {x y:X} (hop:o.op=.binOp op t ox oy q) (hx:ev AW st.t ox=x.enc) (hy:ev AW st.t oy=y.enc) :
   BL P o st (jF D op t x y):=by
 unfold jF
 split
 · rename_i fs xs ys hu
   refine AG (fun hp=>?_) (fun _=>trivial)
   split
   · rename_i r hq
     refine Ch.pure fun B F loc a w hR=>?_
     have hvx:=Aj hR ox
     have hvy:=Aj hR oy
     rw [hx] at hvx
     rw [hy] at hvy
     refine ⟨.bool r,?_,.t _ _ (.sc _ rfl)⟩
     simp only [execOp,hop]
     rw [Sem.run_bind,(Tz hg hu hp hq hvx hvy).1]; rfl
   · rename_i r hq
     refine Ch.pure fun B F loc a w hR=>?_
     have hvx:=Aj hR ox
     have hvy:=Aj hR oy
     rw [hx] at hvx
     rw [hy] at hvy
     refine ⟨.bool !r,?_,.t _ _ (.sc _ rfl)⟩
     simp only [execOp,hop]
     rw [Sem.run_bind,(Tz hg hu hp hq hvx hvy).2]; rfl
   · trivial
 · trivial
def bJ:(kt:Oc)->X->Option kt.den
 | .s,.s b=>some b
 | .i k,.i k' n=>if k' = k then some n else none
 | _,_=>none
omit [Mo] in
theorem OP {kt:Oc}{x:X}{k:kt.den}(h:bJ kt x=some k):x.enc=.t (.sc (kt.val k)):=by
 unfold bJ at h
 split at h
 · cases h; rfl
 · split at h
   · rename_i e; cases h; subst e; rfl
   · cases h
 · cases h
omit [Mo] in
theorem VP:∀ (kt:Oc) (k:kt.den),Go.MapKept.IsKey kt.desc (kt.val k)
 | .s,_=>trivial
 | .i _,_=>rfl
omit [Mo] in
theorem QP:∀ (kt:Oc) (a b:kt.den),Co (kt.val a) (kt.val b)=kt.Co a b
 | .s,_,_=>rfl
 | .i _,_,_=>rfl
omit [Mo] in
theorem Pv:∀ (kt:Oc) (k:kt.den),plain (kt.val k)=true
 | .s,_=>rfl
 | .i _,_=>rfl
def aa:(kt:Oc)->kt.den->X
 | .s,b=>.s b
 | .i k,n=>.i k n
omit [Mo] in
theorem UJ:∀ (kt:Oc) (k:kt.den),(aa kt k).enc=.t (.sc (kt.val k))
 | .s,_=>rfl
 | .i _,_=>rfl
omit [Mo] in
theorem We (t:MT)(k:t.kt.den):∀ (es:List (t.kt.den × t.r.den)),Ai Co (t.en es) (t.kt.val k)=(Ai t.kt.Co es k).map t.r.en
 | []=>rfl
 | x :: es=>by
   have ih:=We t k es
   unfold MT.en at ih ⊢
   simp only [List.map_cons,Ai,QP]
   cases t.kt.Co x.1 k
   · exact ih
   · rfl
omit [Mo] in
theorem Xt (t:MT)(k:t.kt.den)(y:t.r.den):∀ (es:List (t.kt.den × t.r.den)),t.en (Ca t.kt.Co es k y)=Ca Co (t.en es) (t.kt.val k) (t.r.en y)
 | []=>rfl
 | x :: es=>by
   have ih:=Xt t k y es
   unfold MT.en at ih ⊢
   simp only [List.map_cons,Ca,QP]
   cases t.kt.Co x.1 k
   · simp only [cond_false,List.map_cons,ih]
   · rfl
omit [Mo] in
theorem Mz {α:Type}(k:Int)(v:α):∀ (es:List (Int × α)),(Fx k v es).Perm ((k,v) :: es)
 | []=>List.Perm.refl _
 | x :: l=>by
   unfold Fx
   cases decide (k < x.1) with
   | true=>exact List.Perm.refl _
   | false=>exact (List.Perm.cons x (Mz k v l)).trans (List.Perm.swap _ _ _)
omit [Mo] in
theorem PK {κ α:Type}{eq:κ->κ->Bool}{k:κ}(v:α):∀ {es:List (κ × α)},Ai eq es k=none->Ca eq es k v=es ++ [(k,v)]
 | [],_=>rfl
 | x :: l,h=>by
   unfold Ai at h
   unfold Ca
   cases hq:eq x.1 k with
   | true=>rw [hq] at h; cases h
   | false=>rw [hq] at h; rw [cond_false,PK v h]; rfl
omit [Mo] in
theorem dL:∀ (t:MT) (es:t.den) (k:t.kt.den) (y:t.r.den),(Ca t.kt.Co es k y).Perm (t.put es k y)
 | ⟨.s,_,_⟩,es,k,y=>List.Perm.refl _
 | ⟨.i _,_,_⟩,es,k,y=>by
   show (Ca Da es k y).Perm (Be es k y)
   unfold Be
   cases hg:Ai Da es k with
   | some _=>exact List.Perm.refl _
   | none =>
     rw [PK y hg]
     exact (List.perm_append_comm (l₁:=es) (l₂:=[(k,y)])).trans (Mz k y es).symm
omit [Mo] in
theorem kH (t:MT)(k:t.kt.den)(y:t.r.den)(es:t.den):(Ca Co (t.en es) (t.kt.val k) (t.r.en y)).Perm (t.en (t.put es k y)):=by
 rw [<- Xt t k y es]
 unfold MT.en
 exact (dL t es k y).map _
omit [Mo] in
theorem Xc (t:MT)(k:t.kt.den):∀ (es:List (t.kt.den × t.r.den)),t.en (Dz t.kt.Co es k)=Dz Co (t.en es) (t.kt.val k)
 | []=>rfl
 | x :: es=>by
   have ih:=Xc t k es
   unfold MT.en at ih ⊢
   simp only [List.map_cons,Dz,QP]
   cases t.kt.Co x.1 k
   · simp only [cond_false,List.map_cons,ih]
   · rfl
def Ou:Option TypeDesc->Option (TypeId × TypeId) | some (.map k e)=>some (k,e) | _=>none
omit [Mo] in
theorem FH {o:Option TypeDesc}{k e:TypeId}(h:Ou o=some (k,e)):o=some (.map k e):=by
 unfold Ou at h
 split at h
 · cases h; rfl
 · cases h
def kL:Option TypeDesc->Option Oc | some .string=>some .s | some (.int k)=>some (.i k) | _=>none
def Zh (k:Oc)(o:Option TypeDesc):Bool:=match kL o with | some k'=>decide (k' = k) | none=>false
omit [Mo] in
theorem Ke {k:Oc}{o:Option TypeDesc}(h:Zh k o=true):o=some k.desc:=by
 unfold Zh at h
 split at h
 · rename_i k' hk
   have:=of_decide_eq_true h
   subst this
   unfold kL at hk
   split at hk
   · cases hk; rfl
   · cases hk; rfl
   · cases hk
 · cases h
def aJ:Option TypeDesc->Bool | some d=>d.isRow | none=>false
def ZN (t:MT)(a:t.r.den):X:=cond t.ag (.ag (t.r.cells a)) (match t.r.cells a with | [x]=>x | _=>.dead)
omit [Mo] in
theorem ck {w:World}{F:Nat->Prop}{loc:Nat->Option Loc}{x:T}{v:Value}(h:AH w F loc (.t x) v):BN w F x v:=by
 cases h with
 | gone _ o _ hx _=>cases hx
 | t _ _ h=>exact h
omit [Mo] in
theorem MP {w:World} {F:Nat->Prop} {loc:Nat->Option Loc} {t:MT} {a:t.r.den} {v:Value} (h:EE w F t.ag (t.r.en a) v):AH w F loc (ZN t a).enc v:=by
 unfold EE at h
 unfold ZN
 have hc:=t.r.Bt a
 split at h
 · rename_i e
   rw [e]
   obtain ⟨cs,rfl,hl,hr⟩:=h
   simp only [cond_true,X.enc,Ae]
   rw [hc]
   have:=AH.ag (w:=w) (F:=F) (loc:=loc) ((t.r.en a).map V.t) cs.toList (fun j=>cs.toList.getD j undef) (by simpa using hl.symm) (fun j hj=>by
     have hj':j < cs.size:=by rw [hl]; simpa using hj
     simp [List.getD,hj']) (fun j x hj=>by
     rw [List.getElem?_map] at hj
     obtain ⟨y,hy,rfl⟩:=Option.map_eq_some_iff.1 hj
     obtain ⟨u,hu,_,hrel⟩:=hr j y hy
     have:cs.toList.getD j undef=u:=by simp [List.getD,hu]
     rw [this]
     exact .t _ _ hrel)
   simpa using this
 · rename_i e
   have e':t.ag=false:=by rwa [Bool.not_eq_true] at e
   rw [e', cond_false]
   obtain ⟨x,hx,hrel⟩:=h
   rw [hx] at hc
   cases hcs:t.r.cells a with
   | nil=>rw [hcs] at hc; simp at hc
   | cons y l =>
     cases l with
     | nil =>
       rw [hcs] at hc
       simp only [List.map_cons,List.map_nil,List.cons.injEq,and_true] at hc
       simp only []
       rw [hc]
       exact .t _ _ hrel
     | cons z l=>rw [hcs] at hc; simp at hc
theorem fh {B:BK} {w:World} {F:Nat->Prop} {loc:Nat->Option Loc} {s:AD} (hS:AO AW B w F loc s) {g:XG} (ha:Ap g s) {x:X} {v:Value} {r:Row} {y:r.den} (hs:GR g x=true) (hv:AH w F loc x.enc v) (hy:r.BG (Ba x)=some y):EE w F (bO x) (r.en y) v:=by
 obtain ⟨h1,h2⟩:=EV ha hs
 obtain ⟨ts,hts,hw⟩:=r.Bg _ y hy
 rw [h2] at hts
 have hcs:=Ds hts
 cases x with
 | ag cs =>
   show EE w F true (r.en y) v
   unfold EE
   rw [if_pos rfl]
   obtain ⟨hl,hr⟩:=KZ hS h1 hv
   obtain ⟨vs,val,rfl,_,_,_⟩:=HF (by simpa only [X.enc] using hv)
   refine ⟨vs.toArray,rfl,?_,fun j z hj=>?_⟩
   · rw [<- hw.get.1]
     have:=congrArg List.length hcs
     rw [List.length_map] at this
     rw [<- this,hl]; rfl
   · obtain ⟨x', hx', hwk⟩:=hw.get.2 j z hj
     obtain ⟨u,hu,hone,hrel⟩:=hr j (.t x') (by rw [hcs,List.getElem?_map,hx']; rfl)
     exact ⟨u,hu,hone,hwk.rel (ck hrel)⟩
 | _ =>
   show EE w F false (r.en y) v
   unfold EE
   rw [if_neg (by decide)]
   rw [<- h2] at hcs
   simp only [Ba,List.map_cons,List.map_nil] at hcs
   cases ts with
   | nil=>cases hcs
   | cons t0 ts =>
     cases ts with
     | nil =>
       simp only [List.map_cons,List.map_nil,List.cons.injEq,and_true] at hcs
       rw [hcs] at hv
       generalize r.en y=l at hw ⊢
       cases hw with
       | cons _ z _ zs hwk ZV =>
         cases ZV
         exact ⟨z,rfl,hwk.rel (ck hv)⟩
     | cons t1 ts=>simp at hcs
def MU (D:Ay)(g:XG)(rw? : Option Row)(dst:Option Nat)(t:TypeId):Out :=
 match dst,Ou (D.Af t),rw? with
 | some d,some (kt,et),some r=>match g d,kL (D.Af kt) with
   | none,some K=>.ok (.mp d) [(d,some (.mp ⟨K,aJ (D.Af et),r⟩ []))]
   | _,_=>.bad
 | _,_,_=>.bad
theorem Oy {g:XG} {o:Oper} {st:St} (ha:Ap g st.s) {t:TypeId} {rw? : Option Row} (hop:o.op=.makeMap t none):BL P o st (MU D g rw? o.dst t):=by
 unfold MU
 split
 · rename_i d kt et r hd hm
   split
   · rename_i K hn hk
     have hfree:=ha.no d hn
     intro B F loc a w hR
     refine ⟨F,Am loc d (some (.CQ w.heap.size)),w.alloc (.map #[] 0),.map (some w.heap.size),_,?_,.inl rfl,hR.s.jU hfree K.desc (aJ (D.Af et)),DQ hR.s _,BC.Am (DV hR.s hfree),.mp _ _ (AA _ _ _)⟩
     simp only [execOp,hop]
     show ((do pure (Next.value (<- Instr.makeMap t none)):Sem Next)).run P w=_
     rw [Sem.run_bind,UZ]; rfl
   · trivial
 · trivial
def Hj (D:Ay) (g:XG) (t:TypeId) (m k x:X):Out :=
 match m with
 | .mp o=>match gx g o with
   | some (.mp T es)=>match Ou (D.Af t),bJ T.kt k,T.r.BG (Ba x) with
     | some (kt,_),some key,some y=>cond (Zh T.kt (D.Af kt) && GR g x && (bO x == T.ag)) (.ok (.tp []) [(o,some (.mp T (T.put es key y)))]) .bad
     | _,_,_=>.bad
   | _=>.bad
 | _=>.bad
theorem La (hg:Good P D) {g:XG} {o:Oper} {st:St} (ha:Ap g st.s) {t:TypeId} {om ok ox:Operand} {m k x:X} (hop:o.op=.mapUpdate t om ok ox) (hm:ev AW st.t om=m.enc) (hk:ev AW st.t ok=k.enc) (hx:ev AW st.t ox=x.enc) :
   BL P o st (Hj D g t m k x):=by
 unfold Hj
 split
 · rename_i n
   split
   · rename_i T es hgx
     split
     · rename_i kt et key y hmt hkey hy
       refine AG (fun hc=>?_) (fun _=>trivial)
       simp only [Bool.and_eq_true,beq_iff_eq] at hc
       obtain ⟨⟨h1,h2⟩,h3⟩:=hc
       intro B F loc a w hR
       have hs:=ha.is _ _ (CC hgx)
       obtain ⟨l,hl,hrel⟩:=hR.s.DJ _ _ hs
       have hv:=Aj hR ox
       rw [hx] at hv
       have hvk:=Aj hR ok
       rw [hk,OP hkey] at hvk
       have hvm:=Aj hR om
       rw [hm] at hvm
       cases hrel with
       | mp _ _ _ b en clock vs hb hmo =>
         have hmv:=fh hR.s ha h2 hv hy
         rw [h3] at hmv
         obtain ⟨w', hrun,hS', hk'⟩:=hR.s.iU (P:=P) hl hs (hg.Af t _ (FH hmt)).1 (hg.Af kt _ (Ke h1)).1 (VP T.kt key) hmv (kH T key y es)
         refine ⟨F,loc,w', undef,.skip,?_,.inr ⟨rfl,rfl⟩,hS', hk', BC.refl _,.tp [] [] (fun _=>undef) rfl (fun j hj=>by simp at hj) (fun j x hj=>by simp [CJ] at hj)⟩
         have e1:=FV hvm hl
         have e2:=AV hvk
         simp only [execOp,hop]
         rw [e1,e2]
         simp [hrun]
     · trivial
   · trivial
 · trivial
def He (D:Ay) (g:XG) (t t2:TypeId) (m k:X):Out :=
 match m with
 | .mp o=>match gx g o with
   | some (.mp T es)=>match Ou (D.Af t),bJ T.kt k with
     | some (kt,_),some key=>cond (Zh T.kt (D.Af kt) && Nat.beq kt t2) (.ok (.tp []) [(o,some (.mp T (Dz T.kt.Co es key)))]) .bad
     | _,_=>.bad
   | _=>.bad
 | _=>.bad
theorem Li (hg:Good P D) {g:XG} {o:Oper} {st:St} (ha:Ap g st.s) {t t2:TypeId} {om ok:Operand} {m k:X} (hop:o.op=.call ⟨.builtin .delete,#[om,ok],#[t,t2]⟩) (hm:ev AW st.t om=m.enc) (hk:ev AW st.t ok=k.enc) :
   BL P o st (He D g t t2 m k):=by
 unfold He
 split
 · rename_i n
   split
   · rename_i T es hgx
     split
     · rename_i kt et key hmt hkey
       refine AG (fun hc=>?_) (fun _=>trivial)
       simp only [Bool.and_eq_true] at hc
       obtain ⟨h1,h2⟩:=hc
       have e0:=Nat.eq_of_beq_eq_true h2
       subst e0
       intro B F loc a w hR
       have hs:=ha.is _ _ (CC hgx)
       obtain ⟨l,hl,hrel⟩:=hR.s.DJ _ _ hs
       have hvk:=Aj hR ok
       rw [hk,OP hkey] at hvk
       have hvm:=Aj hR om
       rw [hm] at hvm
       cases hrel with
       | mp _ _ _ b en clock vs hb hmo =>
         obtain ⟨w', hrun,hS', hk'⟩:=hR.s.jQ (P:=P) hl hs o.type (hg.Af t _ (FH hmt)).1 (hg.Af kt _ (Ke h1)).1 (VP T.kt key)
         rw [show Dz Co (T.en es) (T.kt.val key)=T.en (Dz T.kt.Co es key) from (Xc T key es).symm] at hS'
         refine ⟨F,loc,w', .tuple #[],_,?_,.inl rfl,hS', hk', BC.refl _,KG⟩
         have e1:=FV hvm hl
         have e2:=AV hvk
         simp only [execOp,hop]
         rw [<- e1,<- e2] at hrun
         simp [resolve,invoke,builtin,hrun]
     · trivial
   · trivial
 · trivial
def Qj:Option XO->Option ((T:MT) × T.den)
 | some (.mp T es)=>some ⟨T,es⟩
 | some (.mq T es _ _ _)=>some ⟨T,es⟩
 | _=>none
omit [Mo] in
theorem LM {g:XG}{s:AD}(ha:Ap g s){o:Nat}{T:MT}{es:T.den}(h:Qj (gx g o)=some ⟨T,es⟩):mapOf (get s o)=some (T.kt.desc,T.ag,T.en es):=by
 unfold Qj at h
 split at h
 · rename_i hg; cases h; rw [ha.get hg]; rfl
 · rename_i hg; cases h; rw [ha.get hg]; rfl
 · cases h
def Mp (ag:Bool):Value->Bool
 | .agg cs=>ag && cs.toList.all plain
 | v => !ag && plain v
def Hy (D:Ay) (g:XG) (t:TypeId) (m k:X) (c:Bool):Out :=
 match m with
 | .mp o => match Qj (gx g o) with
   | some ⟨T,es⟩=>match Ou (D.Af t),bJ T.kt k with
     | some (kt,et),some key=>match D.zero et with
       | some z=>match T.r.BG (z.cells.toList.map CG) with
         | some zr=>cond (Zh T.kt (D.Af kt) && D.has et && Mp T.ag z)
             (.SD (T.r.den × Bool) (some ((Ai T.kt.Co es key).getD zr,(Ai T.kt.Co es key).isSome)) fun a=>(cond c (.tp [ZN T a.1,.b a.2]) (ZN T a.1),[])) .bad
         | none=>.bad
       | none=>.bad
     | _,_=>.bad
   | none=>.bad
 | _=>.bad
omit [Mo] in
theorem Xw {w:World} {F:Nat->Prop} {ag:Bool} {r:Row} {z:Value} {zr:r.den} (h:Mp ag z=true) (hz:r.BG (z.cells.toList.map CG)=some zr):EE w F ag (r.en zr) z:=by
 obtain ⟨ts,hts,hw⟩:=r.Bg _ zr hz
 unfold EE
 have hpl:∀ (cs:List Value),cs.all plain=true->(cs.map CG).map X.enc=(cs.map T.sc).map V.t:=by
   intro cs hc
   rw [List.map_map,List.map_map]
   refine List.map_congr_left fun v hv=>?_
   exact JW (List.all_eq_true.1 hc v hv)
 have single:Mp ag z=true->(∀ cs,z ≠ .agg cs)->ag=false/\plain z=true/\z.cells.toList=[z]:=by
   intro h hn
   unfold Mp at h
   split at h
   · exact absurd rfl (hn _)
   · simp only [Bool.and_eq_true,Bool.not_eq_true'] at h
     refine ⟨h.1,h.2,?_⟩
     cases z <;> first | rfl | exact absurd rfl (hn _)
 by_cases hc:∃ cs,z=.agg cs
 · obtain ⟨cs,rfl⟩:=hc
   simp only [Mp,Bool.and_eq_true] at h
   rw [if_pos h.1]
   rw [show (Value.agg cs).cells=cs from rfl,hpl _ h.2,FJ] at hts
   cases hts
   refine ⟨cs,rfl,?_,fun j x hj=>?_⟩
   · rw [<- hw.get.1]; simp
   · obtain ⟨x', hx', hwk⟩:=hw.get.2 j x hj
     rw [List.getElem?_map] at hx'
     obtain ⟨u,hu,rfl⟩:=Option.map_eq_some_iff.1 hx'
     have hp:plain u=true:=List.all_eq_true.1 h.2 u (List.mem_of_getElem? hu)
     exact ⟨u,by rw [<- Array.getElem?_toList]; exact hu,HE hp,hwk.rel (.sc _ hp)⟩
 · obtain ⟨h1,h2,h3⟩:=single h fun cs e=>hc ⟨cs,e⟩
   rw [h1,if_neg (by decide)]
   rw [h3,hpl [z] (by simp [h2]),FJ] at hts
   cases hts
   generalize r.en zr=l at hw ⊢
   cases hw with
   | cons _ q _ qs hwk ZV =>
     cases ZV
     exact ⟨q,rfl,hwk.rel (.sc _ h2)⟩
theorem Lh (hg : Good P D) {g:XG} {o:Oper} {st:St} (ha:Ap g st.s) {t:TypeId} {om ok:Operand} {m k:X} {c:Bool} (hop:o.op=.lookup t om ok c) (hm:ev AW st.t om=m.enc) (hk:ev AW st.t ok=k.enc) :
   BL P o st (Hy D g t m k c):=by
 unfold Hy
 split
 · rename_i n
   split
   · rename_i T es hgx
     split
     · rename_i kt et key hmt hkey
       split
       · rename_i z hz
         split
         · rename_i zr hzr
           refine AG (fun hc=>?_) (fun _=>trivial)
           simp only [Bool.and_eq_true] at hc
           obtain ⟨⟨h1,h2⟩,h3⟩:=hc
           obtain ⟨de,hde⟩:=BV h2
           obtain ⟨_,i,hi,hsz,hbt,hzi⟩:=hg.Af et _ hde
           intro a0 ha0
           cases ha0
           refine Ch.pure fun B F loc a w hR=>?_
           have hvk:=Aj hR ok
           rw [hk,OP hkey] at hvk
           have hvm:=Aj hR om
           rw [hm] at hvm
           obtain ⟨b,en,clock,vs,hl,hb,hmo⟩:=hR.s.gw (LM ha hgx)
           have hzv:(zeroValue et).run P w=.ok z w:=by simp [zeroValue,typeInfo,hi,hzi.trans hz]
           obtain ⟨v,hrun,hmv⟩:=hmo.look (P:=P) hb c (hg.Af t _ (FH hmt)).1 (hg.Af kt _ (Ke h1)).1 hzv (Xw (F:=F) h3 hzr) (VP T.kt key)
           have e1:=FV hvm hl
           have e2:=AV hvk
           rw [show Ai Co (T.en es) (T.kt.val key)=(Ai T.kt.Co es key).map T.r.en from We T key es] at hrun hmv
           have hd:(((Ai T.kt.Co es key).map T.r.en).getD (T.r.en zr))=T.r.en ((Ai T.kt.Co es key).getD zr):=by cases Ai T.kt.Co es key <;> rfl
           rw [hd] at hmv
           rw [Option.isSome_map] at hrun
           have hxv:=MP (loc:=loc) hmv
           cases c with
           | true =>
             refine ⟨.tuple #[v,.bool (Ai T.kt.Co es key).isSome],?_,?_⟩
             · simp only [execOp,hop]
               rw [e1,e2]
               simp [hrun]
             · refine .tp _ [v,.bool (Ai T.kt.Co es key).isSome] (fun j=>[v,Value.bool (Ai T.kt.Co es key).isSome].getD j undef) rfl (fun j hj=>?_) (fun j y hj=>?_)
               · match j,hj with
                 | 0,_=>rfl
                 | 1,_=>rfl
                 | j+2,hj=>exact absurd (show j+2 < 2 from hj) (by omega)
               · match j,hj with
                 | 0,hj=>cases hj; exact hxv
                 | 1,hj=>cases hj; exact .t _ _ (.sc _ rfl)
                 | j+2,hj=>simp [CJ] at hj
           | false =>
             refine ⟨v,?_,hxv⟩
             simp only [execOp,hop]
             rw [e1,e2]
             simp [hrun]
         · trivial
       · trivial
     · trivial
   · trivial
 · trivial
def QY (D:Ay)(g:XG)(t:TypeId)(x:X):Out :=
 match x with
 | .mp o=>match Qj (gx g o) with
   | some ⟨T,es⟩=>cond (Ou (D.Af t)).isSome (RM .i64 (List.length (α:=T.kt.den × T.r.den) es)) .bad
   | none=>.bad
 | _=>.bad
theorem Ru (hg:Good P D) {g:XG} {o:Oper} {st:St} (ha:Ap g st.s) {t:TypeId} {ox:Operand} {x:X} (hop:o.op=.call ⟨.builtin .len,#[ox],#[t]⟩) (hx:ev AW st.t ox=x.enc):BL P o st (QY D g t x):=by
 unfold QY
 split
 · rename_i n
   split
   · rename_i T es hgx
     refine AG (fun hc=>?_) (fun _=>trivial)
     obtain ⟨⟨kt,et⟩,hmt⟩:=Option.isSome_iff_exists.1 hc
     refine Ch.pure fun B F loc a w hR=>?_
     have hvm:=Aj hR ox
     rw [hx] at hvm
     obtain ⟨b,en,clock,vs,hl,hb,hmo⟩:=hR.s.gw (LM ha hgx)
     have e1:=FV hvm hl
     have hsz:en.size=List.length (α:=T.kt.den × T.r.den) es:=by
       obtain ⟨v0,hpv,hen⟩:=hmo.Ox
       rw [hen.size,hpv.length_eq,hmo.al.1]
       unfold MT.en
       rw [List.length_map]
     refine ⟨goInt en.size,Uf hop ?_,by rw [hsz]; exact .t _ _ (.sc _ rfl)⟩
     rw [e1]
     simp [Builtin.len_,run_underlying (hg.Af t _ (FH hmt)).1,Go.MapKept.run_getObj_map hb]
   · trivial
 · trivial
def Qr (D:Ay)(g:XG)(dst:Option Nat)(t:TypeId)(x:X):Out :=
 match dst,x with
 | some d,.mp o=>match g d,gx g o with
   | none,some (.mp T es)=>cond (Ou (D.Af t)).isSome (.ok (.it d) [(d,some (.mi o)),(o,some (.mq T es d es []))]) .bad
   | _,_=>.bad
 | _,_=>.bad
theorem QT (hg:Good P D) {g:XG} {o:Oper} {st:St} (ha:Ap g st.s) {t:TypeId} {ox:Operand} {x:X} (hop:o.op=.range t ox) (hx:ev AW st.t ox=x.enc):BL P o st (Qr D g o.dst t x):=by
 unfold Qr
 split
 · rename_i d n hd
   split
   · rename_i T es hn hgx
     refine AG (fun hc=>?_) (fun _=>trivial)
     obtain ⟨⟨kt,et⟩,hmt⟩:=Option.isSome_iff_exists.1 hc
     have hfree:=ha.no d hn
     have hs:=ha.is _ _ (CC hgx)
     intro B F loc a w hR
     have hvm:=Aj hR ox
     rw [hx] at hvm
     obtain ⟨b,hl,hrun,hS⟩:=hR.s.mapRange (P:=P) hs hfree (hg.Af t _ (FH hmt)).1
     have e1:=FV hvm hl
     refine ⟨F,_,_,.pointer (some ⟨w.heap.size,0,none⟩),_,?_,.inl rfl,hS,DQ hR.s _,BC.Am (DV hR.s hfree),.it _ _ (AA _ _ _)⟩
     simp only [execOp,hop]
     rw [e1]
     simp [hrun]
   · trivial
 · trivial
def Vj (g:XG) (x:X):Out :=
 match x with
 | .it i => match gx g i with
   | some (.mi m)=>match gx g m with
     | some (.mq T es i' rest _)=>cond (Nat.beq i' i) (.any (T.kt.den × T.r.den) (.tp [.b false]) [(m,some (.mp T es))] rest
         fun j a=>(.tp [.b true,aa T.kt a.1,ZN T a.2],[(m,some (.mq T es i (List.eraseIdx (α:=T.kt.den × T.r.den) rest j) [a]))])) .bad
     | _=>.bad
   | _=>.bad
 | _=>.bad
theorem UB {g:XG} {o:Oper} {st:St} (ha:Ap g st.s) {ox:Operand} {x:X} (hop:o.op=.next ox false) (hx:ev AW st.t ox=x.enc):BL P o st (Vj g x):=by
 unfold Vj
 split
 · rename_i i
   split
   · rename_i m hgi
     split
     · rename_i T es i' rest cu hgm
       refine AG (fun hc=>?_) (fun _=>trivial)
       have e0:=Nat.eq_of_beq_eq_true hc
       subst e0
       have hsi:=ha.is _ _ (CC hgi)
       have hsm:=ha.is _ _ (CC hgm)
       constructor
       · intro hr
         intro B F loc a w hR
         have hv:=Aj hR ox
         rw [hx] at hv
         rcases hR.s.mapNext (P:=P) hsm hsi o.type hv with ⟨_,hrun,hS⟩ | ⟨j,k,r,v1,w1,hj,_⟩
         · refine ⟨F,loc,w,.tuple #[.bool false],_,?_,.inl rfl,hS,Kept.refl _ _,BC.refl _,?_⟩
           · simp only [execOp,hop]
             simp [hrun]
           · refine .tp _ [.bool false] (fun j=>[Value.bool false].getD j undef) rfl (fun j hj=>?_) (fun j y hj=>?_)
             · match j,hj with
               | 0,_=>rfl
               | j+1,hj=>exact absurd (show j+1 < 1 from hj) (by omega)
             · match j,hj with
               | 0,hj=>cases hj; exact .t _ _ (.sc _ rfl)
               | j+1,hj=>simp [CJ] at hj
         · subst hr; simp [MT.en] at hj
       · intro hr
         intro B F loc a w hR
         have hv:=Aj hR ox
         rw [hx] at hv
         rcases hR.s.mapNext (P:=P) hsm hsi o.type hv with ⟨h0,_⟩ | ⟨j,k,r,v1,w1,hj,hrun,hmv,hk,hS,hkp⟩
         · unfold MT.en at h0; exact absurd (List.map_eq_nil_iff.1 h0) hr
         · have hj':=hj
           unfold MT.en at hj'
           rw [List.getElem?_map] at hj'
           obtain ⟨a1,ha1,he⟩:=Option.map_eq_some_iff.1 hj'
           obtain ⟨rfl,rfl⟩:=Prod.mk.inj he
           have em:∀ {α β:Type} (g:α->β) (l:List α) (i:Nat),(l.eraseIdx i).map g=(l.map g).eraseIdx i:=by
             intro α β g l
             induction l with
             | nil=>intro i; rfl
             | cons x l ih=>intro i; cases i with
               | zero=>rfl
               | succ i=>simp only [List.eraseIdx_cons_succ,List.map_cons,ih]
           refine ⟨_,_,⟨j,a1,ha1,rfl,rfl⟩,F,loc,w1,.tuple #[.bool true,T.kt.val a1.1,v1],_,?_,.inl rfl,?_,hkp,BC.refl _,?_⟩
           · simp only [execOp,hop]
             simp [hrun]
           · show AO AW B w1 F loc (Am st.s m (some (some (.mq T.kt.desc T.ag (T.en es) i' (T.en (List.eraseIdx (α:=T.kt.den × T.r.den) rest j)) (T.en [a1])))))
             have e3:T.en (List.eraseIdx (α:=T.kt.den × T.r.den) rest j)=(T.en rest).eraseIdx j:=by unfold MT.en; exact em _ _ _
             rw [e3]
             exact hS
           · refine .tp _ [.bool true,T.kt.val a1.1,v1] (fun j=>[Value.bool true,T.kt.val a1.1,v1].getD j undef) rfl (fun j hj=>?_) (fun j y hj=>?_)
             · match j,hj with
               | 0,_=>rfl
               | 1,_=>rfl
               | 2,_=>rfl
               | j+3,hj=>exact absurd (show j+3 < 3 from hj) (by omega)
             · match j,hj with
               | 0,hj=>cases hj; exact .t _ _ (.sc _ rfl)
               | 1,hj =>
                 cases hj
                 show AH w1 F loc (aa T.kt a1.1).enc (T.kt.val a1.1)
                 rw [UJ]
                 exact .t _ _ (.sc _ (Pv _ _))
               | 2,hj=>cases hj; exact MP hmv
               | j+3,hj=>simp [CJ] at hj
     · trivial
   · trivial
 · trivial
def Uv (g:XG) (x:X):Out :=
 match x with
 | .it i=>match gx g i with
   | some (.mi m)=>match gx g m with
     | some (.mq T _ i' _ cu)=>match (cu:List (T.kt.den × T.r.den)) with
       | [a]=>cond (Nat.beq i' i) (.ok (.tp [aa T.kt a.1,ZN T a.2]) []) .bad
       | _=>.bad
     | _=>.bad
   | _=>.bad
 | _=>.bad
theorem Sw {g:XG} {o:Oper} {st:St} (ha:Ap g st.s) {ox:Operand} {x:X} (hop:o.op=.entry ox) (hx:ev AW st.t ox=x.enc):BL P o st (Uv g x):=by
 unfold Uv
 split
 · rename_i i
   split
   · rename_i m hgi
     split
     · rename_i T es i' rest cu hgm
       split
       · rename_i q a0
         refine AG (fun hc=>?_) (fun _=>trivial)
         have e0:=Nat.eq_of_beq_eq_true hc
         subst e0
         have hsi:=ha.is _ _ (CC hgi)
         have hsm:=ha.is _ _ (CC hgm)
         refine Ch.pure fun B F loc a w hR=>?_
         have hv:=Aj hR ox
         rw [hx] at hv
         obtain ⟨v1,hrun,hmv⟩:=hR.s.mapEntry (P:=P) (k:=T.kt.val a0.1) (r:=T.r.en a0.2) (cu:=_) hsm hsi rfl hv
         refine ⟨.tuple #[T.kt.val a0.1,v1],?_,?_⟩
         · simp only [execOp,hop]
           simp [hrun]
         · refine .tp _ [T.kt.val a0.1,v1] (fun j=>[T.kt.val a0.1,v1].getD j undef) rfl (fun j hj=>?_) (fun j y hj=>?_)
           · match j,hj with
             | 0,_=>rfl
             | 1,_=>rfl
             | j+2,hj=>exact absurd (show j+2 < 2 from hj) (by omega)
           · match j,hj with
             | 0,hj =>
               cases hj
               show AH w F loc (aa T.kt a0.1).enc (T.kt.val a0.1)
               rw [UJ]
               exact .t _ _ (.sc _ (Pv _ _))
             | 1,hj=>cases hj; exact MP hmv
             | j+2,hj=>simp [CJ] at hj
       · trivial
     · trivial
   · trivial
 · trivial
def WN (D:Ay)(g:XG)(dst:Option Nat)(t:TypeId)(x:X):Out :=
 match dst,x with
 | some d,.s s=>match g d with
   | none=>cond (EC (D.Af t)) (.ok (.it d) [(d,some (.si s 0))]) .bad
   | some _=>.bad
 | _,_=>.bad
def dJ (g:XG)(str:Bool)(x:X):Out :=
 match str,x with
 | true,.it o=>match gx g o with
   | some (.si s pos)=>.cs (decide (pos < s.size)) (.tp [.b true,.i .i64 (pos:Int),.i .i32 ((Utf8.decode s pos).1:Int)]) [(o,some (.si s (pos+(Utf8.decode s pos).2)))] (.tp [.b false]) []
   | _=>.bad
 | _,_=>.bad
theorem UD (hg:Good P D) {g:XG} {o:Oper} {st:St} (ha:Ap g st.s) {t:TypeId} {ox:Operand} {x:X} (hop:o.op=.range t ox) (hx:ev AW st.t ox=x.enc):BL P o st (WN D g o.dst t x):=by
 unfold WN
 split
 · rename_i d s hd
   split
   · rename_i hn
     refine AG (fun hs=>?_) (fun _=>trivial)
     have hfree:=ha.no d hn
     have hu:=(hg.Af t _ (Bc hs)).1
     intro B F loc a w hR
     have hv:=Aj hR ox
     rw [hx] at hv
     have hv2:=AV hv
     refine ⟨F,Am loc d (some (.CQ w.heap.size)),w.alloc (.stringIter s 0),.pointer (some ⟨w.heap.size,0,none⟩),_,?_,.inl rfl,hR.s.alloc hfree (.si s 0 _ (heap_alloc_new w _)),DQ hR.s _,BC.Am (DV hR.s hfree),.it _ _ (AA _ _ _)⟩
     simp only [execOp,hop]
     rw [hv2]
     simp [run_range_string (P:=P) w t s hu,World.iter]
   · trivial
 · trivial
omit [Mo] in
theorem XR {w:World}{F:Nat->Prop}{loc:Nat->Option Loc}{o:Nat}{v:Value}{b:Nat}(h:AH w F loc (.it o) v)(hl:loc o=some (.CQ b)):v=.pointer (some ⟨b,0,none⟩):=by
 cases h with
 | gone _ o' _ hx ho=>cases hx; rw [hl] at ho; cases ho
 | it _ b' ho=>rw [hl] at ho; cases ho; rfl
omit [Mo] in
theorem db {w:World}{b pos:Nat}{s:ByteArray}{ty:TypeId}(hb:w.heap[b]? = some (.stringIter s pos))(h:pos < s.size) :
   (Instr.next (.pointer (some ⟨b,0,none⟩)) true ty).run P w=.ok (.tuple #[.bool true,.int .i64 pos,.int .i32 (Utf8.decode s pos).1]) { w with heap:=w.heap.setIfInBounds b (.stringIter s (pos+(Utf8.decode s pos).2)) }:=by
 simp [Instr.next,getObj,setObj,Sem.run,hb,h,goInt]
omit [Mo] in
theorem bF {w:World}{b pos:Nat}{s:ByteArray}{ty:TypeId}(hb:w.heap[b]? = some (.stringIter s pos))(h:¬ pos < s.size) :
   (Instr.next (.pointer (some ⟨b,0,none⟩)) true ty).run P w=.ok (.tuple #[.bool false]) w:=by
 simp [Instr.next,getObj,Sem.run,hb,h]
theorem Vx {g:XG} {o:Oper} {st:St} (ha:Ap g st.s) {str:Bool} {ox:Operand} {x:X} (hop:o.op=.next ox str) (hx:ev AW st.t ox=x.enc):BL P o st (dJ g str x):=by
 unfold dJ
 split
 · rename_i n
   split
   · rename_i s pos hgx
     have hs:=ha.is _ _ (CC hgx)
     constructor
     · intro hc B F loc a w hR
       have hlt:pos < s.size:=of_decide_eq_true hc
       obtain ⟨l,hl,hr⟩:=hR.s.DJ _ _ hs
       cases hr with
       | si _ _ b hb =>
         have hv:=Aj hR ox
         rw [hx] at hv
         have hv2:=XR hv hl
         have hbs:b < w.heap.size:=(hR.s.own _ _ b hl rfl).1
         obtain ⟨hS,hk⟩:=hR.s.turn (w':={ w with heap:=w.heap.setIfInBounds b (.stringIter s (pos+(Utf8.decode s pos).2)) }) (x:=.si s (pos+(Utf8.decode s pos).2)) hl rfl (by simp) rfl rfl rfl (fun k hk=>by simp [Array.getElem?_setIfInBounds,Ne.symm hk]) (.si _ _ b (by simp [Array.getElem?_setIfInBounds,hbs])) (fun m h=>by rw [hs] at h; cases h)
         refine ⟨F,loc,_,.tuple #[.bool true,.int .i64 pos,.int .i32 (Utf8.decode s pos).1],_,?_,.inl rfl,hS,hk,BC.refl _,?_⟩
         · simp only [execOp,hop]
           rw [hv2,Sem.run_bind,db hb hlt]; rfl
         · refine .tp _ [.bool true,.int .i64 pos,.int .i32 (Utf8.decode s pos).1] (fun j=>[Value.bool true,.int .i64 pos,.int .i32 (Utf8.decode s pos).1].getD j undef) rfl (fun j hj=>?_) (fun j y hj=>?_)
           · match j,hj with
             | 0,_=>rfl
             | 1,_=>rfl
             | 2,_=>rfl
             | j+3,hj=>exact absurd (show j+3 < 3 from hj) (by omega)
           · match j,hj with
             | 0,hj=>cases hj; exact .t _ _ (.sc _ rfl)
             | 1,hj=>cases hj; exact .t _ _ (.sc _ rfl)
             | 2,hj=>cases hj; exact .t _ _ (.sc _ rfl)
             | j+3,hj=>simp [CJ] at hj
     · intro hc B F loc a w hR
       have hlt:¬ pos < s.size:=of_decide_eq_false hc
       obtain ⟨l,hl,hr⟩:=hR.s.DJ _ _ hs
       cases hr with
       | si _ _ b hb =>
         have hv:=Aj hR ox
         rw [hx] at hv
         have hv2:=XR hv hl
         refine ⟨F,loc,w,.tuple #[.bool false],_,?_,.inl rfl,hR.s,Kept.refl _ _,BC.refl _,?_⟩
         · simp only [execOp,hop]
           rw [hv2,Sem.run_bind,bF hb hlt]; rfl
         · refine .tp _ [.bool false] (fun j=>[Value.bool false].getD j undef) rfl (fun j hj=>?_) (fun j y hj=>?_)
           · match j,hj with
             | 0,_=>rfl
             | j+1,hj=>exact absurd (show j+1 < 1 from hj) (by omega)
           · match j,hj with
             | 0,hj=>cases hj; exact .t _ _ (.sc _ rfl)
             | j+1,hj=>simp [CJ] at hj
   · trivial
 · trivial
def tJ (D:Ay)(t:TypeId)(gl:Nat)(i:X):Out :=
 match oh fq gl,D.Af t,i with
 | some ⟨r,xs⟩,some (.array len e),.i _ n=>cond (Nat.beq r.len (D.size e) && Nat.beq xs.length len && D.has e) (.SD r.den (ix xs n) fun a=>(.pf r a 0,[])) .bad
 | _,_,_=>.bad
omit [Mo] in
theorem flat_get {α:Type}{f:α->List T}{m:Nat}:∀ {xs:List α} {n:Nat} {a:α},(∀ x ∈ xs,(f x).length=m)->xs[n]? = some a->∀ j,j < m->((xs.map f).flatten)[n * m+j]? = (f a)[j]? /\ n * m+j < ((xs.map f).flatten).length
 | [],n,a,_,h,_,_=>by simp at h
 | x :: xs,0,a,hm,h,j,hj=>by
   simp only [List.getElem?_cons_zero,Option.some.injEq] at h
   subst h
   have hl:=hm x (by simp)
   simp only [List.map_cons,List.flatten_cons,Nat.zero_mul,Nat.zero_add,List.length_append]
   exact ⟨List.getElem?_append_left (by omega),by omega⟩
 | x :: xs,n+1,a,hm,h,j,hj=>by
   have hl:=hm x (by simp)
   have ih:=flat_get (xs:=xs) (n:=n) (a:=a) (fun y hy=>hm y (by simp [hy])) (by simpa using h) j hj
   simp only [List.map_cons,List.flatten_cons,List.length_append]
   have e:(n+1) * m+j=(f x).length+(n * m+j):=by rw [hl,Nat.add_mul]; omega
   rw [e]
   exact ⟨by rw [List.getElem?_append_right (by omega),Nat.add_sub_cancel_left]; exact ih.1,by omega⟩
theorem cO (hg:Good P D) {o:Oper} {st:St} {t:TypeId} {gl:Nat} {oi:Operand} {i:X} (hop:o.op=.indexAddr t (.global gl) oi) (hi:ev AW st.t oi=i.enc):BL P o st (tJ D t gl i):=by
 unfold tJ
 split
 · rename_i r xs len e k n hgl hu
   refine AG (fun hc=>?_) (fun _=>trivial)
   simp only [Bool.and_eq_true] at hc
   obtain ⟨⟨h1,h2⟩,h3⟩:=hc
   have hr:=Nat.eq_of_beq_eq_true h1
   have hlen:=Nat.eq_of_beq_eq_true h2
   obtain ⟨d,hd⟩:=BV h3
   intro a ha
   obtain ⟨hn0,hget⟩:=VE ha
   have hlt:n.toNat < xs.length:=(List.getElem?_eq_some_iff.1 hget).1
   refine Ch.pure fun B F loc ac w hR=>?_
   have hG:AW gl=some (xs.map r.en).flatten:=by unfold AW; rw [hgl]
   obtain ⟨hF,val,hcell,hrel⟩:=hR.s.GY gl _ hG
   have hv:=AV (show AH w F loc (.t (.sc (.int k n))) (ac.eval oi) by have:=Aj hR oi; rw [hi] at this; exact this)
   have hfl:=fun j (hj:j < r.len)=>flat_get (f:=r.en) (m:=r.len) (xs:=xs) (fun x _=>r.Cj x) hget j hj
   refine ⟨.pointer (some ⟨gl,n.toNat * r.len,none⟩),?_,?_⟩
   · simp only [execOp,hop]
     rw [hv]
     show ((do pure (Next.value (<- Instr.indexAt t (.pointer (some ⟨gl,0,none⟩)) (.int k n))):Sem Next)).run P w=_
     simp [Instr.indexAt,asIntOf,run_underlying (hg.Af t _ hu).1 w,hn0,show n < (len:Int) by omega,DB hg hd,Instr.sureAddr,Addr.add,hr]
     intro h; exact h.symm
   · have:=AH.pf (w:=w) (F:=F) (loc:=loc) (r.en a) 0 gl (n.toNat * r.len) (fun j=>val (n.toNat * r.len+j)) hF (fun j hj=>hcell _ (hfl j (by rw [r.Cj] at hj; exact hj)).2) (fun j x hj=>hrel _ x (by
       have hj':j < r.len:=by have:=(List.getElem?_eq_some_iff.1 hj).1; rw [r.Cj] at this; exact this
       rw [(hfl j hj').1]; exact hj))
     rw [show gl=gl from rfl] at this
     show AH w F loc (V.pf (r.en a) 0) _
     simpa using this
 · trivial
def fB (y:X)(x:X):Bool:=match x with | .fz .u _ _=>Dc y | .sl .u _=>Dc y | .sw _ _ _=>Dc y | _=>false
def nk (D:Ay) (rows:Nat->Option Row) (g:XG) (e:Operand->X) (o:Oper):Out :=
 match o.op with
 | .move x=>.ok (e x) []
 | .assign x=>.ok (e x) []
 | .pick c a b=>(match e c with | .b q=>.ok (aK q (e a) (e b)) [] | _=>.bad)
 | .extract x i=>(match e x with | .tp l=>(match l[i]? with | some v=>.ok v [] | none=>.bad) | _=>.bad)
 | .binOp op t x y _=>cond (fB (e y) (e x)) (cn D g op t (e x) (e y)) (cond (bO (e x)) (jF D op t (e x) (e y)) (lO (iq D g op t x y (e x) (e y))))
 | .unOp op _ x=>lO (tY op (e x))
 | .range t x=>(match Ou (D.Af t) with | some _=>Qr D g o.dst t (e x) | none=>WN D g o.dst t (e x))
 | .next x true=>dJ g true (e x)
 | .next x false=>Vj g (e x)
 | .entry x=>Uv g (e x)
 | .makeMap t none=>MU D g (rows t) o.dst t
 | .mapUpdate t m k x=>Hj D g t (e m) (e k) (e x)
 | .lookup t m k c=>Hy D g t (e m) (e k) c
 | .call ⟨.builtin .delete,⟨[m,k]⟩,⟨[t,t2]⟩⟩=>He D g t t2 (e m) (e k)
 | .convert src dst x=>(match CN (D.Af src) with
   | some _=>KO D g src dst (e x)
   | none=>(match CN (D.Af dst),e x with
     | some el,.s s=>KJ D g o.dst src el s
     | _,_=>lO (Ze D src dst (e x))))
 | .nilCheck x=>(match dW (e x),Tm g (e x) with | .ptr,some false=>.ok (e x) [] | _,_=>.bad)
 | .fieldAddr t x f=>lO (Ht D g t (e x) f)
 | .indexAddr t (.global gl) i=>tJ D t gl (e i)
 | .indexAddr t x i=>Hr D g t (e x) (e i)
 | .field t x f=>lO (Vy D t (e x) f)
 | .index t x i=>Vo D t (e x) (e i)
 | .build t parts=>Vb D g t (parts.toList.map fun p=>(p.1,e p.2))
 | .buildSlice t len parts=>GV D g (rows t) o.dst t len (parts.toList.map fun p=>(p.1,e p.2))
 | .makeSlice t x y=>Hl D g (rows t) o.dst t x y (e x)
 | .load t x=>XC D g t (e x)
 | .store t p x=>WH D g t (e p) (e x)
 | .slice t x lo hi none=>WX D g t (e x) (lo.map e) (hi.map e)
 | .box t x=>eN g o.dst t (e x)
 | .alloc t=>(match XM D t with | some z=>eN g o.dst t z | none=>.bad)
 | .makeFunc (.func f) first caps=>cond first.isEmpty (.ok (.fn f (caps.toList.map e)) []) .bad
 | .makeInterface t x=>cond (D.has t && !(Rp (D.Af t))) (.ok (.Aw t (e x)) []) .bad
 | .typeAssert x _ t true=>Ro D (e x) t
 | .call ⟨.builtin .len,⟨[x]⟩,⟨[t]⟩⟩=>(match Ou (D.Af t) with | some _=>QY D g t (e x) | none=>kv D g t (e x))
 | .call ⟨.builtin .clear,⟨[x]⟩,⟨[t]⟩⟩=>WR D g t (e x)
 | .call ⟨.builtin .max,⟨[x,y]⟩,_⟩=>lV mx (e x) (e y)
 | .call ⟨.builtin .min,⟨[x,y]⟩,_⟩=>lV mn (e x) (e y)
 | .call ⟨.builtin .append,⟨[x,y]⟩,⟨[t,t']⟩⟩=>cond (Nat.beq t' t) (Rs D g o.dst t (e x) (e y)) (match e y with | .s s=>OQ D g o.dst t t' (e x) s | _=>.bad)
 | _=>.bad
theorem Sn (hg:Good P D) {rows:Nat->Option Row} {g:XG} {o:Oper} {st:St} {e:Operand->X} (ha:Ap g st.s) (he:∀ x ∈ o.op.operands.toList,ev AW st.t x=(e x).enc):BL P o st (nk D rows g e o):=by
 have pure:∀ {v:X},JM D o.op (ev AW st.t) st.s=some v.enc->BL P o st (.ok v []):=fun h=>BQ hg rfl h
 unfold nk
 split
 · rename_i x hop
   have hx:=he x (by rw [hop]; simp [Op.operands])
   exact pure (by rw [hop]; show some (ev AW st.t x)=_; rw [hx])
 · rename_i x hop
   have hx:=he x (by rw [hop]; simp [Op.operands])
   exact pure (by rw [hop]; show some (ev AW st.t x)=_; rw [hx])
 · rename_i c a b hop
   have hc:=he c (by rw [hop]; simp [Op.operands])
   have hxa:=he a (by rw [hop]; simp [Op.operands])
   have hxb:=he b (by rw [hop]; simp [Op.operands])
   split
   · rename_i q hq
     refine pure ?_
     rw [hop]
     show (match ev AW st.t c with | .t (.sc (.bool q))=>some (TX q (ev AW st.t a) (ev AW st.t b)) | _=>none)=_
     rw [hc,hq,hxa,hxb]
     show some (TX q (e a).enc (e b).enc)=_
     rw [Ma,YE]
   · trivial
 · rename_i x i hop
   have hx:=he x (by rw [hop]; simp [Op.operands])
   split
   · rename_i l hl
     split
     · rename_i v hv
       refine pure ?_
       rw [hop]
       show (match ev AW st.t x with | .tp vs=>vs[i]? | _=>none)=_
       rw [hx,hl]
       show (CJ l)[i]? = _
       rw [Ae,List.getElem?_map,hv]; rfl
     · trivial
   · trivial
 · rename_i op t x y q hop
   have hx:=he x (by rw [hop]; simp [Op.operands])
   have hy:=he y (by rw [hop]; simp [Op.operands])
   exact AG (fun _=>Vg hg ha hop hx hy) (fun _=>AG (fun _=>Ym hg hop hx hy) (fun _=>KC.ok hg hop (ZG ha hx hy).l))
 · rename_i op t x hop
   have hx:=he x (by rw [hop]; simp [Op.operands])
   exact KC.ok hg hop (Zx hx).l
 · rename_i t x hop
   split
   · exact QT hg ha hop (he x (by rw [hop]; simp [Op.operands]))
   · exact UD hg ha hop (he x (by rw [hop]; simp [Op.operands]))
 · rename_i x hop
   exact Vx ha hop (he x (by rw [hop]; simp [Op.operands]))
 · rename_i x hop
   exact UB ha hop (he x (by rw [hop]; simp [Op.operands]))
 · rename_i x hop
   exact Sw ha hop (he x (by rw [hop]; simp [Op.operands]))
 · rename_i t hop
   exact Oy ha hop
 · rename_i t m k x hop
   exact La hg ha hop (he m (by rw [hop]; simp [Op.operands])) (he k (by rw [hop]; simp [Op.operands])) (he x (by rw [hop]; simp [Op.operands]))
 · rename_i t m k c hop
   exact Lh hg ha hop (he m (by rw [hop]; simp [Op.operands])) (he k (by rw [hop]; simp [Op.operands]))
 · rename_i m k t t2 hop
   exact Li hg ha hop (he m (by rw [hop]; simp [Op.operands,Call.operands])) (he k (by rw [hop]; simp [Op.operands,Call.operands]))
 · rename_i src dst x hop
   have hx:=he x (by rw [hop]; simp [Op.operands])
   split
   · exact OR hg ha hop hx
   · split
     · rename_i el s hde hes
       exact Ms hg ha hop (Av hde) (by rw [hx,hes])
     · exact KC.ok hg hop (Uh hx).l
 · rename_i x hop
   have hx:=he x (by rw [hop]; simp [Op.operands])
   split
   · rename_i hk hn
     refine pure ?_
     rw [hop]
     show (match kd (ev AW st.t x),Gk st.s (ev AW st.t x) with | .ptr,some false=>some (ev AW st.t x) | _,_=>none)=_
     rw [hx,JL,hk,QB ha hn]
   · trivial
 · rename_i t x f hop
   exact KC.ok hg hop (Lc ha (he x (by rw [hop]; simp [Op.operands]))).l
 · rename_i t gl i hop
   exact cO hg hop (he i (by rw [hop]; simp [Op.operands]))
 · rename_i t x i hng hop
   exact Ll hg ha hop (he x (by rw [hop]; simp [Op.operands])) (he i (by rw [hop]; simp [Op.operands]))
 · rename_i t x f hop
   exact KC.ok hg hop (TD (he x (by rw [hop]; simp [Op.operands]))).l
 · rename_i t x i hop
   exact Te hg hop (he x (by rw [hop]; simp [Op.operands])) (he i (by rw [hop]; simp [Op.operands]))
 · rename_i t parts hop
   refine Ss hg ha hop ?_
   rw [List.map_map]
   refine List.map_congr_left fun p hp=>?_
   show (p.1,ev AW st.t p.2)=(p.1,(e p.2).enc)
   rw [he p.2 (by rw [hop]; simp only [Op.operands,List.toList_toArray,List.mem_map]; exact ⟨p,hp,rfl⟩)]
 · rename_i t len parts hop
   refine KS hg ha hop ?_
   rw [List.map_map]
   refine List.map_congr_left fun p hp=>?_
   show (p.1,ev AW st.t p.2)=(p.1,(e p.2).enc)
   rw [he p.2 (by rw [hop]; simp only [Op.operands,List.toList_toArray,List.mem_map]; exact ⟨p,hp,rfl⟩)]
 · rename_i t x y hop
   exact Le hg ha hop (he x (by rw [hop]; simp [Op.operands]))
 · rename_i t x hop
   exact KC.ok hg hop (MW ha (he x (by rw [hop]; simp [Op.operands])))
 · rename_i t p x hop
   exact Tb hg ha hop (he p (by rw [hop]; simp [Op.operands])) (he x (by rw [hop]; simp [Op.operands]))
 · rename_i t x lo hi hop
   have hm:∀ (y:Option Operand),(∀ z,y=some z->z ∈ o.op.operands.toList)->y.map (ev AW st.t)=(y.map e).map X.enc:=by
     intro y hy
     cases y with
     | none=>rfl
     | some z=>simp [he z (hy z rfl)]
   exact Tj hg ha hop (he x (by rw [hop]; simp [Op.operands])) (hm lo (by rintro z rfl; rw [hop]; simp [Op.operands])) (hm hi (by rintro z rfl; rw [hop]; simp [Op.operands]))
 · rename_i t x hop
   exact QA hg ha (.inl ⟨x,hop,he x (by rw [hop]; simp [Op.operands])⟩)
 · rename_i t hop
   split
   · rename_i z hz
     exact QA hg ha (.inr ⟨hop,Nc hz⟩)
   · trivial
 · rename_i f first caps hop
   refine AG (fun hf=>?_) (fun _=>trivial)
   refine pure ?_
   rw [hop]
   show (if first.isEmpty then some (V.fn f (caps.toList.map (ev AW st.t))) else none)=_
   rw [if_pos hf]
   show _=some (V.fn f (CJ (caps.toList.map e)))
   rw [Ae,List.map_map]
   congr 2
   refine List.map_congr_left fun p hp=>?_
   exact he p (by rw [hop]; simp only [Op.operands,Array.toList_append,List.mem_append]; exact .inr hp)
 · rename_i t x hop
   refine AG (fun hf=>?_) (fun _=>trivial)
   simp only [Bool.and_eq_true,Bool.not_eq_true'] at hf
   obtain ⟨d,hd⟩:=BV hf.1
   have hx:=he x (by rw [hop]; simp [Op.operands])
   refine pure ?_
   rw [hop]
   show (match D.Af t with | some (.interface _)=>none | some _=>some (V.Aw t (ev AW st.t x)) | none=>none)=_
   have hni:=hf.2
   rw [hd] at hni ⊢
   rw [hx]
   cases d <;> first | (simp [Rp] at hni; done) | rfl
 · rename_i x xt t hop
   exact RY hg hop (he x (by rw [hop]; simp [Op.operands]))
 · rename_i x t hop
   split
   · exact Ru hg ha hop (he x (by rw [hop]; simp [Op.operands,Call.operands]))
   · exact YD hg ha hop (he x (by rw [hop]; simp [Op.operands,Call.operands]))
 · rename_i x t hop
   exact UL hg ha hop (he x (by rw [hop]; simp [Op.operands,Call.operands]))
 · rename_i x y ts hop
   exact YS hg hop (he x (by rw [hop]; simp [Op.operands,Call.operands])) (he y (by rw [hop]; simp [Op.operands,Call.operands]))
 · rename_i x y ts hop
   exact YQ hg hop (he x (by rw [hop]; simp [Op.operands,Call.operands])) (he y (by rw [hop]; simp [Op.operands,Call.operands]))
 · rename_i x y t t' hop
   have hy:=he y (by rw [hop]; simp [Op.operands,Call.operands])
   refine AG (fun hf=>?_) (fun _=>?_)
   · have:=Nat.eq_of_beq_eq_true hf
     subst this
     exact QR hg ha hop (he x (by rw [hop]; simp [Op.operands,Call.operands])) hy
   · split
     · rename_i s hs
       exact PB hg ha hop (he x (by rw [hop]; simp [Op.operands,Call.operands])) (by rw [hy,hs])
     · trivial
 · trivial
end Go.Proofs.YthoimblkpcikdaaGreatDoor.Mc
namespace Go.Proofs.YthoimblkpcikdaaGreatDoor.Mc
open Go.RowKit
variable [Mo]
variable {P:Program}{D:Ay}
mutual
def X.AX (f:Nat->Option Nat):X->X
 | .sl nl o=>match f o with | some o'=>.sl nl o' | none=>.dead
 | .sw o off len=>match f o with | some o'=>.sw o' off len | none=>.dead
 | .pt o off=>match f o with | some o'=>.pt o' off | none=>.dead
 | .pe o i off=>match f o with | some o'=>.pe o' i off | none=>.dead
 | .mp o=>match f o with | some o'=>.mp o' | none=>.dead
 | .it o=>match f o with | some o'=>.it o' | none=>.dead
 | .sp o=>match f o with | some o'=>.sp o' | none=>.dead
 | .fn g caps=>.fn g (EY f caps)
 | .ag cs=>.ag (EY f cs)
 | .tp cs=>.tp (EY f cs)
 | .Aw t x=>.Aw t (X.AX f x)
 | x=>x
def EY (f:Nat->Option Nat):List X->List X
 | []=>[]
 | x :: xs=>X.AX f x :: EY f xs
end
omit [Mo] in
mutual
theorem X.CH (f:Nat->Option Nat):∀ (x:X),(x.AX f).enc=x.enc.AX f
 | .sl nl o=>by simp only [X.AX,X.enc,V.AX]; cases f o <;> rfl
 | .sw o off len=>by simp only [X.AX,X.enc,V.AX]; cases f o <;> rfl
 | .pt o off=>by simp only [X.AX,X.enc,V.AX]; cases f o <;> rfl
 | .pe o i off=>by simp only [X.AX,X.enc,V.AX]; cases f o <;> rfl
 | .mp o=>by simp only [X.AX,X.enc,V.AX]; cases f o <;> rfl
 | .it o=>by simp only [X.AX,X.enc,V.AX]; cases f o <;> rfl
 | .sp o=>by simp only [X.AX,X.enc,V.AX]; cases f o <;> rfl
 | .fn g caps=>by simp only [X.AX,X.enc,V.AX,Dt f caps]
 | .ag cs=>by simp only [X.AX,X.enc,V.AX,Dt f cs]
 | .tp cs=>by simp only [X.AX,X.enc,V.AX,Dt f cs]
 | .Aw t x=>by simp only [X.AX,X.enc,V.AX,X.CH f x]
 | .c v=>by
   show X.enc (.c v)=V.AX f (X.enc (.c v))
   simp only [X.enc]
   cases plain v <;> rfl
 | .i k n=>rfl
 | .b q=>rfl
 | .s s=>rfl
 | .fz nl r xs=>rfl
 | .pf r x off=>rfl
 | .dead=>rfl
theorem Dt (f:Nat->Option Nat):∀ (xs:List X),CJ (EY f xs)=KM f (CJ xs)
 | []=>rfl
 | x :: xs=>by simp only [EY,CJ,KM,X.CH f x,Dt f xs]
end
mutual
def X.FB (p:Nat->Bool):X->Bool
 | .sl _ o=>p o
 | .sw o _ _=>p o
 | .pt o _=>p o
 | .pe o _ _=>p o
 | .mp o=>p o
 | .it o=>p o
 | .sp o=>p o
 | .fn _ caps=>El p caps
 | .ag cs=>El p cs
 | .tp cs=>El p cs
 | .Aw _ x=>X.FB p x
 | _=>true
def El (p:Nat->Bool):List X->Bool
 | []=>true
 | x :: xs=>X.FB p x && El p xs
end
def KR (f:Nat->Option Nat)(n:Nat):Bool:=match f n with | some m=>Nat.beq m n | none=>false
omit [Mo] in
theorem DT {f:Nat->Option Nat}{n:Nat}(h:KR f n=true):f n=some n:=by
 unfold KR at h
 split at h
 · rename_i m hm; rw [hm,Nat.eq_of_beq_eq_true h]
 · cases h
omit [Mo] in
mutual
theorem X.FW (f:Nat->Option Nat):∀ (x:X),x.FB (KR f)=true->x.AX f=x
 | .sl nl o,h=>by simp only [X.AX,DT h]
 | .sw o off len,h=>by simp only [X.AX,DT h]
 | .pt o off,h=>by simp only [X.AX,DT h]
 | .pe o i off,h=>by simp only [X.AX,DT h]
 | .mp o,h=>by simp only [X.AX,DT h]
 | .it o,h=>by simp only [X.AX,DT h]
 | .sp o,h=>by simp only [X.AX,DT h]
 | .fn g caps,h=>by simp only [X.AX,FL f caps h]
 | .ag cs,h=>by simp only [X.AX,FL f cs h]
 | .tp cs,h=>by simp only [X.AX,FL f cs h]
 | .Aw t x,h=>by simp only [X.AX,X.FW f x h]
 | .c v,_=>rfl
 | .i k n,_=>rfl
 | .b q,_=>rfl
 | .s s,_=>rfl
 | .fz nl r xs,_=>rfl
 | .pf r x off,_=>rfl
 | .dead,_=>rfl
theorem FL (f:Nat->Option Nat):∀ (xs:List X),El (KR f) xs=true->EY f xs=xs
 | [],_=>rfl
 | x :: xs,h=>by
   simp only [El,Bool.and_eq_true] at h
   simp only [EY,X.FW f x h.1,FL f xs h.2]
end
def XO.AX (f:Nat->Option Nat):XO->XO
 | .bx e cells=>.bx e (EY f cells)
 | .mq t es i rest cu=>match f i with | some i'=>.mq t es i' rest cu | none=>.mp t es
 | .mi m=>match f m with | some m'=>.mi m' | none=>.mi m
 | x=>x
omit [Mo] in
theorem XO.CH (f:Nat->Option Nat)(x:XO):(x.AX f).enc=O.AX f x.enc:=by
 cases x with
 | bx e cells=>simp only [XO.AX,XO.enc,O.AX,Dt]
 | mq t es i rest cu=>simp only [XO.AX,XO.enc,O.AX]; cases f i <;> rfl
 | mi m=>simp only [XO.AX,XO.enc,O.AX]; cases f m <;> rfl
 | _=>rfl
def XO.FB (p:Nat->Bool):XO->Bool
 | .bx _ cells=>El p cells
 | .mq _ _ i _ _=>p i
 | .mi m=>p m
 | _=>true
omit [Mo] in
theorem XO.FW (f:Nat->Option Nat)(x:XO)(h:x.FB (KR f)=true):x.AX f=x:=by
 cases x with
 | bx e cells=>simp only [XO.AX,FL f cells h]
 | mq t es i rest cu=>simp only [XO.AX,DT (show KR f i=true from h)]
 | mi m=>simp only [XO.AX,DT (show KR f m=true from h)]
 | _=>rfl
def iV (p:Nat->Bool):Option XO->Bool | some x=>x.FB p | none=>true
def Yc (s:XS):Ren:=s.map fun p=>(p.1,p.1)
def ZP (E:XE)(st:BF)(i:Nat):X:=match lk (st.t ++ E.t) i with | some x=>x | none=>.dead
def Sz (E:XE) (BU:List Nat) (ρ:Ren) (st:BF):Option BF :=
 let ρ':=Yc E.s ++ ρ
 cond (CU ρ' && E.a.all (fun o=>KR (AX ρ') o) && ρ'.all (fun p=>Nat.beq p.1 p.2 || Nat.blt p.2 1000000)
     && E.t.all (fun p=>(lk st.t p.1).isNone && p.2.FB (KR (AX ρ'))) && E.s.all (fun p=>(lk st.s p.1).isNone && iV (KR (AX ρ')) p.2) && ρ.all (fun p=>(lk st.s p.1).isSome))
   (some ⟨BU.map fun i=>(i,(ZP E st i).AX (AX ρ')),ρ.map fun p=>(p.2,match lk st.s p.1 with | some x=>x.map (XO.AX (AX ρ')) | none=>none)⟩) none
omit [Mo] in
theorem Jo (f:V->V)(t:Nat->V):∀ (is:List Nat) (i:Nat),DU f t is i=if i ∈ is then f (t i) else .dead
 | [],i=>by simp [DU,gm]
 | j :: is,i=>by
   rw [DU]
   by_cases h:i=j
   · subst h; rw [AA]; simp
   · rw [AM _ _ h,Jo f t is i]; simp [h]
omit [Mo] in
theorem Cm {α:Type}:∀ {l:List (Nat × α)} {n:Nat} {a:α},lk l n=some a->(n,a) ∈ l
 | (i,b) :: l,n,a,h=>by
   rw [lk] at h
   cases hb:Nat.beq i n with
   | true=>rw [hb] at h; cases h; rw [Nat.eq_of_beq_eq_true hb]; simp
   | false=>rw [hb] at h; exact List.mem_cons_of_mem _ (Cm h)
omit [Mo] in
theorem Iy {α:Type}:∀ {l:List (Nat × α)} {n:Nat},lk l n=none->∀ a,(n,a) ∉ l
 | [],n,_,a=>by simp
 | (i,b) :: l,n,h,a=>by
   rw [lk] at h
   cases hb:Nat.beq i n with
   | true=>rw [hb] at h; cases h
   | false =>
     rw [hb] at h
     have hne:i ≠ n:=by rintro rfl; simp at hb
     intro hm
     rcases List.mem_cons.1 hm with hm | hm
     · cases hm; exact hne rfl
     · exact Iy h a hm
omit [Mo] in
theorem Ko {α:Type} (f:Nat->α):∀ (l:List Nat) (n:Nat),lk (l.map fun i=>(i,f i)) n=if n ∈ l then some (f n) else none
 | [],n=>by simp [lk]
 | j :: l,n=>by
   rw [List.map_cons,lk]
   cases hb:Nat.beq j n with
   | true=>have:=Nat.eq_of_beq_eq_true hb; subst this; simp
   | false =>
     have hne:¬ n=j:=by rintro rfl; simp at hb
     rw [cond_false,Ko f l n]; simp [hne]
omit [Mo] in
theorem Ft (t:XT)(i:Nat):Ci t i=(match lk t i with | some x=>x | none=>X.dead).enc:=by unfold Ci; cases lk t i <;> rfl
omit [Mo] in
theorem Kl {ρ:Ren}:Bj (ρ.map (·.2))=true->∀ {p q:Nat × Nat},p ∈ ρ->q ∈ ρ->p.2=q.2->p=q:=by
 intro h p q hp hq e
 have h1:=Dh (ρ:=ρ) (n:=p.1) (n':=p.2) h (by simpa using hp)
 have h2:=Dh (ρ:=ρ) (n:=q.1) (n':=q.2) h (by simpa using hq)
 rw [e,h2] at h1
 cases p; cases q; simp_all
theorem Conv.Sz {E:XE} {BU:List Nat} {ρ:Ren} {st st':BF} (h:Mc.Sz E BU ρ st=some st'):Conv AW (AJ E st) (AJ E st'):=by
 unfold Mc.Sz at h
 simp only at h
 obtain ⟨hc,rfl⟩:=AR h
 simp only [Bool.and_eq_true] at hc
 obtain ⟨⟨⟨⟨⟨h1,h2⟩,h3⟩,h4⟩,h5⟩,h6⟩:=hc
 have Cc:=h1
 unfold CU at h1
 rw [Bool.and_eq_true] at h1
 refine Conv.norm (BU:=E.t.map (·.1) ++ BU) (ρ:=Yc E.s ++ ρ) ?_
 unfold Mc.norm
 have ha:(AJ E st).a.all (fun o=>(AX (Yc E.s ++ ρ) o == some o))=true:=by
   rw [List.all_eq_true] at h2 ⊢
   intro o ho
   rw [DT (h2 o ho)]; simp
 rw [if_pos (by rw [Cc,ha,h3]; rfl)]
 congr 1
 show St.mk _ _ _ _=St.mk _ _ _ _
 congr 1
 · funext i
   rw [Jo]
   simp only [AJ,Ft,AZ,Ko]
   rw [List.all_eq_true] at h4
   by_cases hk:i ∈ BU
   · rw [if_pos (by simp [hk]),if_pos hk]
     simp only [X.CH,ZP,AZ]
   · simp only [if_neg hk]
     cases he:lk E.t i with
     | none =>
       have:i ∉ E.t.map (·.1):=by
         intro hm
         obtain ⟨p,hp,rfl⟩:=List.mem_map.1 hm
         exact Iy he p.2 (by simpa using hp)
       rw [if_neg (by simp only [List.mem_append]; exact fun h=>h.elim this hk)]; rfl
     | some x =>
       have hm:=Cm he
       have hb:=h4 _ hm
       simp only [Bool.and_eq_true,Option.isNone_iff_eq_none] at hb
       rw [if_pos (by simp only [List.mem_append]; exact .inl (List.mem_map.2 ⟨_,hm,rfl⟩)),hb.1]
       simp only
       rw [<- X.CH,X.FW _ _ hb.2]
 · funext n
   rw [IB h1.2]
   simp only [AJ,encS,AZ]
   rw [List.all_eq_true] at h5 h6
   cases hf:(Yc E.s ++ ρ).find? (fun p=>Nat.beq p.2 n) with
   | some p =>
     obtain ⟨hp,rfl⟩:=PT hf
     simp only
     rcases List.mem_append.1 hp with hp1 | hp2
     · obtain ⟨q,hq,rfl⟩:=List.mem_map.1 hp1
       have hb:=h5 q hq
       simp only [Bool.and_eq_true,Option.isNone_iff_eq_none] at hb
       simp only [hb.1]
       have hnone:lk (ρ.map fun p=>(p.2,match lk st.s p.1 with | some x=>x.map (XO.AX (AX (Yc E.s ++ ρ))) | none=>none)) q.1=none:=by
         cases hl:lk (ρ.map fun p=>(p.2,match lk st.s p.1 with | some x=>x.map (XO.AX (AX (Yc E.s ++ ρ))) | none=>none)) q.1 with
         | none=>rfl
         | some y =>
           exfalso
           obtain ⟨p', hp', he⟩:=List.mem_map.1 (Cm hl)
           injection he with he1 he2
           have:=Kl h1.2 hp (List.mem_append_right _ hp') he1.symm
           have h7:=h6 p' hp'
           rw [<- this] at h7
           simp only [hb.1,Option.isSome_none,Bool.false_eq_true] at h7
       rw [hnone]
       cases hl:lk E.s q.1 with
       | none=>exact absurd hq (by have:=Iy hl q.2; simpa using this)
       | some y =>
         have hy:=h5 _ (Cm hl)
         simp only [Bool.and_eq_true] at hy
         simp only [Option.map_some]
         cases y with
         | none=>rfl
         | some z=>simp only [Option.map_some]; rw [<- XO.CH,XO.FW _ _ hy.2]
     · have h7:=h6 p hp2
       obtain ⟨y,hy⟩:=Option.isSome_iff_exists.1 h7
       have hl:lk (ρ.map fun p=>(p.2,match lk st.s p.1 with | some x=>x.map (XO.AX (AX (Yc E.s ++ ρ))) | none=>none)) p.2=some (y.map (XO.AX (AX (Yc E.s ++ ρ)))):=by
         cases hl:lk (ρ.map fun p=>(p.2,match lk st.s p.1 with | some x=>x.map (XO.AX (AX (Yc E.s ++ ρ))) | none=>none)) p.2 with
         | none=>exact absurd (List.mem_map.2 ⟨p,hp2,rfl⟩) (Iy hl _)
         | some z =>
           obtain ⟨p', hp', he⟩:=List.mem_map.1 (Cm hl)
           injection he with he1 he2
           have:=Kl h1.2 (List.mem_append_right (Yc E.s) hp') hp he1
           subst this
           rw [hy] at he2; rw [<- he2]
       rw [hl,hy]
       simp only [Option.map_some]
       cases y with
       | none=>rfl
       | some z=>simp only [Option.map_some,XO.CH]
   | none =>
     simp only
     have hnone:∀ p ∈ Yc E.s ++ ρ,p.2 ≠ n:=by
       intro p hp e
       have:=List.find?_eq_none.1 hf p hp
       simp [e] at this
     have hl1:lk (ρ.map fun p=>(p.2,match lk st.s p.1 with | some x=>x.map (XO.AX (AX (Yc E.s ++ ρ))) | none=>none)) n=none:=by
       cases hl:lk (ρ.map fun p=>(p.2,match lk st.s p.1 with | some x=>x.map (XO.AX (AX (Yc E.s ++ ρ))) | none=>none)) n with
       | none=>rfl
       | some z =>
         exfalso
         obtain ⟨p', hp', he⟩:=List.mem_map.1 (Cm hl)
         injection he with he1 he2
         exact hnone p' (List.mem_append_right _ hp') he1
     rw [hl1]
     cases hl:lk E.s n with
     | none=>rfl
     | some z=>exact absurd rfl (hnone (n,n) (List.mem_append_left _ (List.mem_map.2 ⟨_,Cm hl,rfl⟩)))
end Go.Proofs.YthoimblkpcikdaaGreatDoor.Mc
namespace Go.Proofs.YthoimblkpcikdaaGreatDoor.Mc
open Go.RowKit
variable [Mo]
variable {P:Program}{D:Ay}
mutual
def X.BP (o:Nat)(r:Row)(rows:List r.den):X->X
 | .sl nl o'=>cond (Nat.beq o' o) (.fz nl r rows) (.sl nl o')
 | .sw o' off len=>cond (Nat.beq o' o) (.fz .u r ((rows.drop off).take len)) (.sw o' off len)
 | .pe o' i off=>cond (Nat.beq o' o) .dead (.pe o' i off)
 | .fn g caps=>.fn g (Ic o r rows caps)
 | .ag cs=>.ag (Ic o r rows cs)
 | .tp cs=>.tp (Ic o r rows cs)
 | .Aw t x=>.Aw t (X.BP o r rows x)
 | x=>x
def Ic (o:Nat)(r:Row)(rows:List r.den):List X->List X
 | []=>[]
 | x :: xs=>X.BP o r rows x :: Ic o r rows xs
end
omit [Mo] in
mutual
theorem X.HG (o:Nat)(r:Row)(rows:List r.den):∀ (x:X),(x.BP o r rows).enc=x.enc.BP o (rows.map r.en)
 | .sl nl o'=>by simp only [X.BP,X.enc,V.BP]; cases Nat.beq o' o <;> rfl
 | .sw o' off len=>by simp only [X.BP,X.enc,V.BP]; cases Nat.beq o' o <;> simp [X.enc,List.map_take,List.map_drop]
 | .pe o' i off=>by simp only [X.BP,X.enc,V.BP]; cases Nat.beq o' o <;> rfl
 | .fn g caps=>by simp only [X.BP,X.enc,V.BP,FP o r rows caps]
 | .ag cs=>by simp only [X.BP,X.enc,V.BP,FP o r rows cs]
 | .tp cs=>by simp only [X.BP,X.enc,V.BP,FP o r rows cs]
 | .Aw t x=>by simp only [X.BP,X.enc,V.BP,X.HG o r rows x]
 | .c v=>by
   show X.enc (.c v)=V.BP o _ (X.enc (.c v))
   simp only [X.enc]
   cases plain v <;> rfl
 | .i k n=>rfl
 | .b q=>rfl
 | .s s=>rfl
 | .fz nl r' xs=>rfl
 | .pf r' x off=>rfl
 | .pt o' off=>rfl
 | .mp o'=>rfl
 | .it o'=>rfl
 | .sp o'=>rfl
 | .dead=>rfl
theorem FP (o:Nat)(r:Row)(rows:List r.den):∀ (xs:List X),CJ (Ic o r rows xs)=Rc o (rows.map r.en) (CJ xs)
 | []=>rfl
 | x :: xs=>by simp only [Ic,CJ,Rc,X.HG o r rows x,FP o r rows xs]
end
def SC (o n:Nat):Bool := !(Nat.beq n o)
omit [Mo] in
mutual
theorem X.Jg (o:Nat)(r:Row)(rows:List r.den):∀ (x:X),x.FB (SC o)=true->x.BP o r rows=x
 | .sl nl o', h=>by have h':SC o o' = true:=h; unfold SC at h'; simp only [Bool.not_eq_true'] at h'; simp only [X.BP,h', cond_false]
 | .sw o' off len,h=>by have h':SC o o' = true:=h; unfold SC at h'; simp only [Bool.not_eq_true'] at h'; simp only [X.BP,h', cond_false]
 | .pe o' i off,h=>by have h':SC o o' = true:=h; unfold SC at h'; simp only [Bool.not_eq_true'] at h'; simp only [X.BP,h', cond_false]
 | .fn g caps,h=>by simp only [X.BP,FM o r rows caps h]
 | .ag cs,h=>by simp only [X.BP,FM o r rows cs h]
 | .tp cs,h=>by simp only [X.BP,FM o r rows cs h]
 | .Aw t x,h=>by simp only [X.BP,X.Jg o r rows x h]
 | .c v,_=>rfl
 | .i k n,_=>rfl
 | .b q,_=>rfl
 | .s s,_=>rfl
 | .fz nl r' xs,_=>rfl
 | .pf r' x off,_=>rfl
 | .pt o' off,_=>rfl
 | .mp o', _=>rfl
 | .it o', _=>rfl
 | .sp o', _=>rfl
 | .dead,_=>rfl
theorem FM (o:Nat)(r:Row)(rows:List r.den):∀ (xs:List X),El (SC o) xs=true->Ic o r rows xs=xs
 | [],_=>rfl
 | x :: xs,h=>by
   simp only [El,Bool.and_eq_true] at h
   simp only [Ic,X.Jg o r rows x h.1,FM o r rows xs h.2]
end
def XO.BP (o:Nat)(r:Row)(rows:List r.den):XO->XO
 | .bx e cells=>.bx e (Ic o r rows cells)
 | x=>x
omit [Mo] in
theorem XO.HG (o:Nat)(r:Row)(rows:List r.den)(x:XO):(x.BP o r rows).enc=O.BP o (rows.map r.en) x.enc:=by
 cases x with
 | bx e cells=>simp only [XO.BP,XO.enc,O.BP,FP]
 | _=>rfl
omit [Mo] in
theorem XO.Jg (o:Nat)(r:Row)(rows:List r.den)(x:XO)(h:x.FB (SC o)=true):x.BP o r rows=x:=by
 cases x with
 | bx e cells=>simp only [XO.BP,FM o r rows cells h]
 | _=>rfl
omit [Mo] in
theorem Me {α β:Type}(f:Nat->α->β):∀ (l:List (Nat × α)) (n:Nat),lk (l.map fun p=>(p.1,f p.1 p.2)) n=(lk l n).map (f n)
 | [],n=>rfl
 | (i,a) :: l,n=>by
   rw [List.map_cons,lk,lk]
   cases hb:Nat.beq i n with
   | true=>rw [Nat.eq_of_beq_eq_true hb]; rfl
   | false=>exact Me f l n
def Df (E:XE) (o:Nat) (st:BF):Option BF :=
 match lk st.s o with
 | some (some (.ar _ r rows))=>cond (E.t.all (fun p=>p.2.FB (SC o)) && E.s.all (fun p=>SC o p.1 && iV (SC o) p.2))
     (some ⟨st.t.map fun p=>(p.1,p.2.BP o r rows),st.s.map fun p=>(p.1,cond (Nat.beq p.1 o) none (p.2.map (XO.BP o r rows)))⟩) none
 | _=>none
theorem Conv.Df {E:XE} {o:Nat} {st st':BF} (h:Mc.Df E o st=some st'):Conv AW (AJ E st) (AJ E st'):=by
 unfold Mc.Df at h
 split at h
 · rename_i e r rows hl
   obtain ⟨hc,rfl⟩:=AR h
   simp only [Bool.and_eq_true] at hc
   obtain ⟨h1,h2⟩:=hc
   rw [List.all_eq_true] at h1 h2
   have ho:encS (st.s ++ E.s) o=some (some (.ar e r.len (rows.map r.en))):=by unfold encS; rw [AZ,hl]; rfl
   have:=Conv.dv (G:=AW) (t:=Ci (st.t ++ E.t)) (s:=encS (st.s ++ E.s)) (m:=E.n) (a:=E.a) o e r.len (rows.map r.en) ho
   have e1:(fun i=>(Ci (st.t ++ E.t) i).BP o (rows.map r.en))=Ci ((st.t.map fun p=>(p.1,p.2.BP o r rows)) ++ E.t):=by
     funext i
     rw [Ft,Ft,<- X.HG,AZ,AZ,Me (fun _ x=>X.BP o r rows x)]
     cases lk st.t i with
     | some x=>rfl
     | none =>
       simp only [Option.map_none]
       cases he:lk E.t i with
       | none=>rfl
       | some x=>simp only; rw [X.Jg o r rows x (h1 _ (Cm he))]
   have e2 : (fun n=>cond (Nat.beq n o) (some none) ((encS (st.s ++ E.s) n).map (·.map (O.BP o (rows.map r.en)))))=encS ((st.s.map fun p=>(p.1,cond (Nat.beq p.1 o) none (p.2.map (XO.BP o r rows)))) ++ E.s):=by
     funext n
     unfold encS
     rw [AZ,AZ,Me (fun (i:Nat) (x:Option XO)=>cond (Nat.beq i o) none (x.map (XO.BP o r rows)))]
     cases hb:Nat.beq n o with
     | true =>
       have:=Nat.eq_of_beq_eq_true hb
       subst this
       rw [hl]; simp
     | false =>
       cases hs:lk st.s n with
       | some x=>cases x <;> simp [XO.HG]
       | none =>
         simp only [Option.map_none,cond_false]
         cases he:lk E.s n with
         | none=>rfl
         | some x =>
           have:=h2 _ (Cm he)
           simp only [Bool.and_eq_true] at this
           cases x with
           | none=>rfl
           | some y=>simp only [Option.map_some]; rw [<- XO.HG,XO.Jg o r rows y this.2]
   show Conv AW ⟨_,_,_,_⟩ ⟨_,_,_,_⟩
   rw [e1,e2] at this
   exact this
 · cases h
def Gi (E:XE)(i d e:Nat)(r:Row)(st:BF):Option BF :=
 match lk st.t i with
 | some (.c v)=>cond (Dp v && (lk (st.s ++ E.s) d).isNone && Nat.blt 0 r.len) (some ⟨(i,.sl .n d) :: st.t,(d,some (.ar e r [])) :: st.s⟩) none
 | _=>none
omit [Mo] in
theorem Js {s:XS}{d:Nat}(h:(lk s d).isNone=true):encS s d=none:=by
 rw [Option.isNone_iff_eq_none] at h
 unfold encS; rw [h]
theorem Conv.Gi {E:XE}{i d e:Nat}{r:Row}{st st':BF}(h:Mc.Gi E i d e r st=some st'):Conv AW (AJ E st) (AJ E st'):=by
 unfold Mc.Gi at h
 split at h
 · rename_i v hl
   obtain ⟨hc,rfl⟩:=AR h
   simp only [Bool.and_eq_true] at hc
   obtain ⟨⟨h1,h2⟩,h3⟩:=hc
   have hv:=Ck h1
   subst hv
   have hi:Ci (st.t ++ E.t) i=.t (.sc (.slice none 0 0)):=by unfold Ci; rw [AZ,hl]; simp [X.enc,plain]
   have:=Conv.od (G:=AW) (t:=Ci (st.t ++ E.t)) (s:=encS (st.s ++ E.s)) (m:=E.n) (a:=E.a) i d e r.len hi (Js h2) h3
   show Conv AW ⟨_,_,_,_⟩ ⟨_,_,_,_⟩
   rw [List.cons_append,KL]
   rw [show encS ((d,some (XO.ar e r [])) :: st.s ++ E.s)=Am (encS (st.s ++ E.s)) d (some (some (.ar e r.len []))) from Ew [(d,some (XO.ar e r []))] (st.s ++ E.s)]
   exact this
 · cases h
def Il (E:XE)(o j d e:Nat)(r:Row)(st:BF):Option BF :=
 match lk st.s o with
 | some (some (.bx e0 cells))=>match cells[j]? with
   | some (.c v)=>cond (Dp v && (lk (st.s ++ E.s) d).isNone && Nat.blt 0 r.len) (some ⟨st.t,(o,some (.bx e0 (cells.set j (.sl .n d)))) :: (d,some (.ar e r [])) :: st.s⟩) none
   | _=>none
 | _=>none
theorem Conv.Il {E:XE} {o j d e:Nat} {r:Row} {st st':BF} (h:Mc.Il E o j d e r st=some st'):Conv AW (AJ E st) (AJ E st'):=by
 unfold Mc.Il at h
 split at h
 · rename_i e0 cells hl
   split at h
   · rename_i v hj
     obtain ⟨hc,rfl⟩:=AR h
     simp only [Bool.and_eq_true] at hc
     obtain ⟨⟨h1,h2⟩,h3⟩:=hc
     have hv:=Ck h1
     subst hv
     have ho:encS (st.s ++ E.s) o=some (some (.bx e0 (CJ cells))):=by unfold encS; rw [AZ,hl]; rfl
     have:=Conv.ij (G:=AW) (t:=Ci (st.t ++ E.t)) (s:=encS (st.s ++ E.s)) (m:=E.n) (a:=E.a) o e0 (CJ cells) j d e r.len ho (by rw [Ae,List.getElem?_map,hj]; simp [X.enc,plain]) (Js h2) h3
     show Conv AW ⟨_,_,_,_⟩ ⟨_,_,_,_⟩
     rw [show encS ((o,some (XO.bx e0 (cells.set j (.sl .n d)))) :: (d,some (XO.ar e r [])) :: st.s ++ E.s)=Am (Am (encS (st.s ++ E.s)) d (some (some (.ar e r.len [])))) o (some (some (.bx e0 ((CJ cells).set j (.sl .n d))))) from by
       have:=Ew [(o,some (XO.bx e0 (cells.set j (.sl .n d)))),(d,some (XO.ar e r []))] (st.s ++ E.s)
       rw [show CJ cells=cells.map X.enc from Ae cells,<- show (cells.set j (X.sl .n d)).map X.enc=(cells.map X.enc).set j (.sl .n d) from List.map_set,<- Ae]
       exact this]
     exact this
   · cases h
 · cases h
def Wk (x y:V):Prop:=∀ (w:World) (F:Nat->Prop) (loc:Nat->Option Loc) (v:Value),AH w F loc x v->AH w F loc y v
omit [Mo] in
theorem Wk.refl (x:V):Wk x x:=fun _ _ _ _ h=>h
omit [Mo] in
theorem Wk.of {x y:V}(h:Hp x y):Wk x y:=fun _ _ _ _ k=>h.rel k
def Xq (xs ys:List V):Prop:=xs.length=ys.length/\∀ (j:Nat) (y:V),ys[j]? = some y->∃ x,xs[j]? = some x/\Wk x y
omit [Mo] in
theorem Xq.nil:Xq [] []:=⟨rfl,fun j y h=>by simp at h⟩
omit [Mo] in
theorem Xq.cons {x y:V}{xs ys:List V}(h:Wk x y)(k:Xq xs ys):Xq (x :: xs) (y :: ys):=by
 refine ⟨by simp [k.1],fun j z hz=>?_⟩
 cases j with
 | zero=>cases hz; exact ⟨x,rfl,h⟩
 | succ j=>exact k.2 j z (by simpa using hz)
omit [Mo] in
theorem Wk.ag {xs ys:List V}(h:Xq xs ys):Wk (.ag xs) (.ag ys):=by
 intro w F loc v k
 cases k with
 | gone _ o _ hx _=>cases hx
 | ag _ vs val hl hv hr =>
   refine .ag ys vs val (by rw [<- h.1]; exact hl) (fun j hj=>hv j (by rw [h.1]; exact hj)) (fun j y hy=>?_)
   obtain ⟨x,hx,hw⟩:=h.2 j y hy
   exact hw _ _ _ _ (hr j x hx)
omit [Mo] in
theorem Wk.tp {xs ys:List V}(h:Xq xs ys):Wk (.tp xs) (.tp ys):=by
 intro w F loc v k
 cases k with
 | gone _ o _ hx _=>cases hx
 | tp _ vs val hl hv hr =>
   refine .tp ys vs val (by rw [<- h.1]; exact hl) (fun j hj=>hv j (by rw [h.1]; exact hj)) (fun j y hy=>?_)
   obtain ⟨x,hx,hw⟩:=h.2 j y hy
   exact hw _ _ _ _ (hr j x hx)
omit [Mo] in
theorem Wk.fn {f:FuncId}{xs ys:List V}(h:Xq xs ys):Wk (.fn f xs) (.fn f ys):=by
 intro w F loc v k
 cases k with
 | gone _ o _ hx _=>cases hx
 | fn _ _ vs val hl hv hr =>
   refine .fn f ys vs val (by rw [<- h.1]; exact hl) (fun j hj=>hv j (by rw [h.1]; exact hj)) (fun j y hy=>?_)
   obtain ⟨x,hx,hw⟩:=h.2 j y hy
   exact hw _ _ _ _ (hr j x hx)
omit [Mo] in
theorem Wk.Aw {t:TypeId}{x y:V}(h:Wk x y):Wk (.Aw t x) (.Aw t y):=by
 intro w F loc v k
 cases k with
 | gone _ o _ hx _=>cases hx
 | Aw _ _ v hv=>exact .Aw _ _ _ (h _ _ _ _ hv)
theorem AO.nf {B:BK} {w:World} {F:Nat->Prop} {loc:Nat->Option Loc} {s:AD} (hS:AO AW B w F loc s) {o e:Nat} {xs ys:List V} (ho:s o=some (some (.bx e xs))) (h:Xq xs ys) :
   AO AW B w F loc (Am s o (some (some (.bx e ys)))):=by
 refine { hS with DJ:=fun o' obj h'=>?_,HO:=fun o' l hl'=>?_ }
 · by_cases hod:o' = o
   · subst hod
     rw [AA] at h'; cases h'
     obtain ⟨l,h1,h2⟩:=hS.DJ o' _ ho
     refine ⟨l,h1,?_⟩
     cases h2 with
     | bx _ _ cs b hb hl hr =>
       refine .bx e ys cs b hb (by rw [<- h.1]; exact hl) fun j y hy=>?_
       obtain ⟨x,hx,hw⟩:=h.2 j y hy
       obtain ⟨v,h3,h4,h5⟩:=hr j x hx
       exact ⟨v,h3,h4,hw _ _ _ _ h5⟩
   · rw [AM _ _ hod] at h'; exact hS.DJ o' obj h'
 · by_cases hod:o' = o
   · subst hod; exact ⟨_,AA _ _ _⟩
   · rw [AM _ _ hod]; exact hS.HO o' l hl'
inductive Al where | ti | tb | ts | tn | tl (r:Row) | tw (r:Row) | tm (t:MT) | tq (t:MT)
def Al.den:Al->Type
 | .ti=>Int
 | .tb=>Bool
 | .ts=>ByteArray
 | .tn=>Nat
 | .tl r=>List r.den
 | .tw r=>r.den
 | .tm t=>t.den
 | .tq t=>t.den × t.den
def Al.eq? : (a b:Al)->Option (PLift (a=b))
 | .ti,.ti=>some ⟨rfl⟩
 | .tb,.tb=>some ⟨rfl⟩
 | .ts,.ts=>some ⟨rfl⟩
 | .tn,.tn=>some ⟨rfl⟩
 | .tl r,.tl r'=>match Row.eq? r r' with | some h=>some ⟨by rw [h.down]⟩ | none=>none
 | .tw r,.tw r'=>match Row.eq? r r' with | some h=>some ⟨by rw [h.down]⟩ | none=>none
 | .tm t,.tm t'=>match MT.eq? t t' with | some h=>some ⟨by rw [h.down]⟩ | none=>none
 | .tq t,.tq t'=>match MT.eq? t t' with | some h=>some ⟨by rw [h.down]⟩ | none=>none
 | _,_=>none
structure HV where
 t:Al
 v:t.den
def Tup:List Al->Type
 | []=>Unit
 | [t]=>t.den
 | t :: t' :: ts=>t.den × Tup (t' :: ts)
def Bd:(ts:List Al)->Tup ts->List HV
 | [],_=>[]
 | [t],x=>[⟨t,x⟩]
 | t :: t' :: ts,x=>⟨t,x.1⟩ :: Bd (t' :: ts) x.2
def EB:(ts:List Al)->List HV->Option (Tup ts)
 | [],[]=>some ()
 | [t],[⟨t', v⟩]=>match Al.eq? t' t with | some h=>some (h.down ▸ v) | none=>none
 | t :: t' :: ts,⟨u,v⟩ :: l=>match Al.eq? u t,EB (t' :: ts) l with | some h,some y=>some (h.down ▸ v,y) | _,_=>none
 | _,_=>none
omit [Mo] in
theorem DY:∀ (ts:List Al) (l:List HV) (y:Tup ts),EB ts l=some y->Bd ts y=l
 | [],[],y,_=>rfl
 | [t],[⟨t', v⟩],y,h=>by
   simp only [EB] at h
   split at h
   · rename_i g _
     obtain ⟨g⟩:=g
     subst g
     cases h; rfl
   · cases h
 | t :: t' :: ts,⟨u,v⟩ :: l,y,h=>by
   simp only [EB] at h
   split at h
   · rename_i g z _ hz
     obtain ⟨g⟩:=g
     subst g
     cases h
     simp only [Bd]
     rw [DY (t' :: ts) l z hz]
   · cases h
 | [],_ :: _,_,h=>by simp [EB] at h
 | [t],[],_,h=>by simp [EB] at h
 | [t],_ :: _ :: _,_,h=>by simp [EB] at h
 | t :: t' :: ts,[],_,h=>by simp [EB] at h
end Go.Proofs.YthoimblkpcikdaaGreatDoor.Mc
namespace Go.Proofs.YthoimblkpcikdaaGreatDoor.Mc
open Go.RowKit
variable [Mo]
variable {P:Program}{D:Ay}
inductive Sh where
 | i (k:IntKind)
 | b
 | s
 | li (k:IntKind) (n:Int)
 | lb (q:Bool)
 | c (v:Value)
 | fz (nl:Nl) (r:Row)
 | sl (nl:Nl) (o:Nat)
 | sw (o:Nat)
 | pt (o off:Nat)
 | pe (o off:Nat)
 | pf (r:Row) (off:Nat)
 | mp (o:Nat)
 | it (o:Nat)
 | sp (o:Nat)
 | fn (f:FuncId) (l:List Sh)
 | ag (l:List Sh)
 | tp (l:List Sh)
 | Aw (t:TypeId) (x:Sh)
 | dead
def XB:Value->Value->Bool
 | .pointer none,.pointer none=>true
 | .slice none 0 0,.slice none 0 0=>true
 | .map none,.map none=>true
 | .nilFunc,.nilFunc=>true
 | .nilIface,.nilIface=>true
 | .func (.func f) a b,.func (.func f') a' b'=>Nat.beq f f' && a.isEmpty && b.isEmpty && a'.isEmpty && b'.isEmpty
 | _,_=>false
omit [Mo] in
theorem NG {v w:Value}(h:XB v w=true):v=w:=by
 unfold XB at h
 split at h
 all_goals first
   | rfl
   | cases h
   | skip
 rename_i f a b f' a' b'
 simp only [Bool.and_eq_true] at h
 obtain ⟨⟨⟨⟨h1,h2⟩,h3⟩,h4⟩,h5⟩:=h
 have e1:=Nat.eq_of_beq_eq_true h1
 simp only [Array.isEmpty_iff] at h2 h3 h4 h5
 rw [e1,h2,h3,h4,h5]
def Xy:Nl->Nl->Bool
 | .e,.e=>true
 | .n,.n=>true
 | _,.u=>true
 | _,_=>false
def gh:Nl->Bool | .e=>false | _=>true
mutual
def Ax:Sh->X->Option (List HV)
 | .i k,.i k' n=>if k' = k then some [⟨.ti,n⟩] else none
 | .b,.b q=>some [⟨.tb,q⟩]
 | .s,.s x=>some [⟨.ts,x⟩]
 | .li k m,.i k' n=>if k' = k/\n=m then some [] else none
 | .lb p,.b q=>if q=p then some [] else none
 | .c v,.c w=>cond (XB w v) (some []) none
 | .fz nl r,.fz nl' r' xs=>cond (Xy nl' nl) (match Row.eq? r' r with | some h=>some [⟨.tl r,h.down ▸ xs⟩] | none=>none) none
 | .fz nl r,.c v=>cond (gh nl && Dp v) (some [⟨.tl r,[]⟩]) none
 | .sl nl o,.sl nl' o'=>cond (Xy nl' nl && Nat.beq o' o) (some []) none
 | .sw o,.sw o' off len=>cond (Nat.beq o' o) (some [⟨.tn,off⟩,⟨.tn,len⟩]) none
 | .pt o off,.pt o' off'=>cond (Nat.beq o' o && Nat.beq off' off) (some []) none
 | .pe o off,.pe o' i off'=>cond (Nat.beq o' o && Nat.beq off' off) (some [⟨.tn,i⟩]) none
 | .pf r off,.pf r' x off'=>cond (Nat.beq off' off) (match Row.eq? r' r with | some h=>some [⟨.tw r,h.down ▸ x⟩] | none=>none) none
 | .mp o,.mp o'=>cond (Nat.beq o' o) (some []) none
 | .it o,.it o'=>cond (Nat.beq o' o) (some []) none
 | .sp o,.sp o'=>cond (Nat.beq o' o) (some []) none
 | .sp o,.pt o' off=>cond (Nat.beq o' o && Nat.beq off 0) (some []) none
 | .sp _,.c v=>cond (XB v (.pointer none)) (some []) none
 | .fn f l,.fn f' xs=>cond (Nat.beq f' f) (Ln l xs) none
 | .ag l,.ag xs=>Ln l xs
 | .tp l,.tp xs=>Ln l xs
 | .Aw t s,.Aw t' x=>cond (Nat.beq t' t) (Ax s x) none
 | .dead,_=>some []
 | _,_=>none
def Ln:List Sh->List X->Option (List HV)
 | [],[]=>some []
 | s :: l,x :: xs=>match Ax s x,Ln l xs with
   | some a,some b=>some (a ++ b)
   | _,_=>none
 | _,_=>none
end
mutual
def Bk:Sh->List HV->X × List HV
 | .i k,⟨.ti,n⟩ :: l=>(.i k n,l)
 | .b,⟨.tb,q⟩ :: l=>(.b q,l)
 | .s,⟨.ts,x⟩ :: l=>(.s x,l)
 | .li k m,l=>(.i k m,l)
 | .lb p,l=>(.b p,l)
 | .c v,l=>(.c v,l)
 | .fz nl _,⟨.tl r,xs⟩ :: l=>(.fz nl r xs,l)
 | .sl nl o,l=>(.sl nl o,l)
 | .sw o,⟨.tn,off⟩ :: ⟨.tn,len⟩ :: l=>(.sw o off len,l)
 | .pt o off,l=>(.pt o off,l)
 | .pe o off,⟨.tn,i⟩ :: l=>(.pe o i off,l)
 | .pf _ off,⟨.tw r,x⟩ :: l=>(.pf r x off,l)
 | .mp o,l=>(.mp o,l)
 | .it o,l=>(.it o,l)
 | .sp o,l=>(.sp o,l)
 | .fn f ss,l=>let p:=DX ss l; (.fn f p.1,p.2)
 | .ag ss,l=>let p:=DX ss l; (.ag p.1,p.2)
 | .tp ss,l=>let p:=DX ss l; (.tp p.1,p.2)
 | .Aw t s,l=>let p:=Bk s l; (.Aw t p.1,p.2)
 | _,l=>(.dead,l)
def DX:List Sh->List HV->List X × List HV
 | [],l=>([],l)
 | s :: ss,l=>let p:=Bk s l; let q:=DX ss p.2; (p.1 :: q.1,q.2)
end
mutual
def Sh.hJ:Sh->List Al
 | .i _=>[.ti]
 | .b=>[.tb]
 | .s=>[.ts]
 | .fz _ r=>[.tl r]
 | .sw _=>[.tn,.tn]
 | .pe _ _=>[.tn]
 | .pf r _=>[.tw r]
 | .fn _ l=>Rl l
 | .ag l=>Rl l
 | .tp l=>Rl l
 | .Aw _ s=>s.hJ
 | _=>[]
def Rl:List Sh->List Al
 | []=>[]
 | s :: l=>s.hJ ++ Rl l
end
omit [Mo] in
theorem ou {nl nl':Nl}{rows:List (List T)}(h:Xy nl' nl=true):Wk (.t (.fz nl' rows)) (.t (.fz nl rows)):=by
 cases nl <;> cases nl' <;> first | (cases h; done) | exact Wk.refl _ | exact Wk.of (.fz _ _)
omit [Mo] in
theorem nJ {nl nl':Nl}{o:Nat}(h:Xy nl' nl=true):Wk (.sl nl' o) (.sl nl o):=by
 cases nl <;> cases nl' <;> first | (cases h; done) | exact Wk.refl _ | exact Wk.of (.sl _ _)
omit [Mo] in
theorem iz {nl:Nl}(h:gh nl=true):Wk (.t (.sc (.slice none 0 0))) (.t (.fz nl [])):=Wk.of (.nil nl (by rintro rfl; cases h))
omit [Mo] in
theorem nX (o:Nat):Wk (.pt o 0) (.sp o):=fun w F loc v h=>by
 cases h with
 | gone _ o' _ hx ho=>cases hx; exact .gone _ o _ rfl ho
 | pt _ _ b ho=>exact .sp o b ho
omit [Mo] in
theorem iG (o:Nat):Wk (X.enc (.c (.pointer none))) (.sp o):=fun w F loc v h=>by
 have h':AH w F loc (.t (.sc (.pointer none))) v:=h
 rw [AV h']
 exact .dT o
omit [Mo] in
mutual
theorem NR:∀ (sh:Sh) (x:X) (hs l:List HV),Ax sh x=some hs->∃ x', Bk sh (hs ++ l)=(x', l)/\Wk x.enc x'.enc
 | .dead,x,hs,l,h=>by simp only [Ax] at h; cases h; exact ⟨.dead,rfl,Wk.of (.dead _)⟩
 | .i k,.i k' n,hs,l,h=>by
   simp only [Ax] at h
   split at h
   · rename_i hk; cases h; subst hk; exact ⟨_,rfl,Wk.refl _⟩
   · cases h
 | .b,.b q,hs,l,h=>by simp only [Ax] at h; cases h; exact ⟨_,rfl,Wk.refl _⟩
 | .s,.s q,hs,l,h=>by simp only [Ax] at h; cases h; exact ⟨_,rfl,Wk.refl _⟩
 | .li k m,.i k' n,hs,l,h=>by
   simp only [Ax] at h
   split at h
   · rename_i hk; cases h; obtain ⟨rfl,rfl⟩:=hk; exact ⟨_,rfl,Wk.refl _⟩
   · cases h
 | .lb p,.b q,hs,l,h=>by
   simp only [Ax] at h
   split at h
   · rename_i hk; cases h; subst hk; exact ⟨_,rfl,Wk.refl _⟩
   · cases h
 | .c v,.c w,hs,l,h=>by
   simp only [Ax] at h
   obtain ⟨h1,rfl⟩:=AR h
   exact ⟨_,rfl,by rw [NG h1]; exact Wk.refl _⟩
 | .fz nl r,.fz nl' r' xs,hs,l,h=>by
   simp only [Ax] at h
   cases hc:Xy nl' nl with
   | false=>rw [hc] at h; cases h
   | true =>
     rw [hc] at h
     simp only [cond_true] at h
     split at h
     · rename_i g _
       obtain ⟨g⟩:=g
       subst g
       cases h; exact ⟨_,rfl,ou hc⟩
     · cases h
 | .fz nl r,.c v,hs,l,h=>by
   simp only [Ax] at h
   obtain ⟨h1,rfl⟩:=AR h
   simp only [Bool.and_eq_true] at h1
   obtain rfl:=Ck h1.2
   exact ⟨_,rfl,iz h1.1⟩
 | .sl nl o,.sl nl' o', hs,l,h=>by
   simp only [Ax] at h
   obtain ⟨h1,rfl⟩:=AR h
   simp only [Bool.and_eq_true] at h1
   exact ⟨_,rfl,by rw [Nat.eq_of_beq_eq_true h1.2]; exact nJ h1.1⟩
 | .sw o,.sw o' off len,hs,l,h=>by
   simp only [Ax] at h
   obtain ⟨h1,rfl⟩:=AR h
   exact ⟨_,rfl,by rw [Nat.eq_of_beq_eq_true h1]; exact Wk.refl _⟩
 | .pt o off,.pt o' off', hs,l,h=>by
   simp only [Ax] at h
   obtain ⟨h1,rfl⟩:=AR h
   simp only [Bool.and_eq_true] at h1
   exact ⟨_,rfl,by rw [Nat.eq_of_beq_eq_true h1.1,Nat.eq_of_beq_eq_true h1.2]; exact Wk.refl _⟩
 | .pe o off,.pe o' i off', hs,l,h=>by
   simp only [Ax] at h
   obtain ⟨h1,rfl⟩:=AR h
   simp only [Bool.and_eq_true] at h1
   exact ⟨_,rfl,by rw [Nat.eq_of_beq_eq_true h1.1,Nat.eq_of_beq_eq_true h1.2]; exact Wk.refl _⟩
 | .pf r off,.pf r' x off', hs,l,h=>by
   simp only [Ax] at h
   cases hc:Nat.beq off' off with
   | false=>rw [hc] at h; cases h
   | true =>
     rw [hc] at h
     simp only [cond_true] at h
     split at h
     · rename_i g _
       obtain ⟨g⟩:=g
       subst g
       cases h; exact ⟨_,rfl,by rw [Nat.eq_of_beq_eq_true hc]; exact Wk.refl _⟩
     · cases h
 | .mp o,.mp o', hs,l,h=>by
   simp only [Ax] at h
   obtain ⟨h1,rfl⟩:=AR h
   exact ⟨_,rfl,by rw [Nat.eq_of_beq_eq_true h1]; exact Wk.refl _⟩
 | .it o,.it o', hs,l,h=>by
   simp only [Ax] at h
   obtain ⟨h1,rfl⟩:=AR h
   exact ⟨_,rfl,by rw [Nat.eq_of_beq_eq_true h1]; exact Wk.refl _⟩
 | .sp o,.sp o', hs,l,h=>by
   simp only [Ax] at h
   obtain ⟨h1,rfl⟩:=AR h
   exact ⟨_,rfl,by rw [Nat.eq_of_beq_eq_true h1]; exact Wk.refl _⟩
 | .sp o,.pt o' off,hs,l,h=>by
   simp only [Ax] at h
   obtain ⟨h1,rfl⟩:=AR h
   simp only [Bool.and_eq_true] at h1
   exact ⟨_,rfl,by rw [Nat.eq_of_beq_eq_true h1.1,Nat.eq_of_beq_eq_true h1.2]; exact nX o⟩
 | .sp o,.c v,hs,l,h=>by
   simp only [Ax] at h
   obtain ⟨h1,rfl⟩:=AR h
   exact ⟨_,rfl,by rw [NG h1]; exact iG o⟩
 | .fn f ss,.fn f' xs,hs,l,h=>by
   simp only [Ax] at h
   cases hc:Nat.beq f' f with
   | false=>rw [hc] at h; cases h
   | true =>
     rw [hc] at h
     obtain ⟨xs', h1,h2⟩:=Gv ss xs hs l h
     exact ⟨.fn f xs', by simp only [Bk,h1],by rw [Nat.eq_of_beq_eq_true hc]; simp only [X.enc,Ae]; exact Wk.fn h2⟩
 | .ag ss,.ag xs,hs,l,h=>by
   simp only [Ax] at h
   obtain ⟨xs', h1,h2⟩:=Gv ss xs hs l h
   exact ⟨.ag xs', by simp only [Bk,h1],by simp only [X.enc,Ae]; exact Wk.ag h2⟩
 | .tp ss,.tp xs,hs,l,h=>by
   simp only [Ax] at h
   obtain ⟨xs', h1,h2⟩:=Gv ss xs hs l h
   exact ⟨.tp xs', by simp only [Bk,h1],by simp only [X.enc,Ae]; exact Wk.tp h2⟩
 | .Aw t s,.Aw t' x,hs,l,h=>by
   simp only [Ax] at h
   cases hc:Nat.beq t' t with
   | false=>rw [hc] at h; cases h
   | true =>
     rw [hc] at h
     obtain ⟨x', h1,h2⟩:=NR s x hs l h
     exact ⟨.Aw t x', by simp only [Bk,h1],by rw [Nat.eq_of_beq_eq_true hc]; exact Wk.Aw h2⟩
theorem Gv:∀ (ss:List Sh) (xs:List X) (hs l:List HV),Ln ss xs=some hs->∃ xs', DX ss (hs ++ l)=(xs', l)/\Xq (xs.map X.enc) (xs'.map X.enc)
 | [],[],hs,l,h=>by simp only [Ln] at h; cases h; exact ⟨[],rfl,Xq.nil⟩
 | s :: ss,x :: xs,hs,l,h=>by
   simp only [Ln] at h
   split at h
   · rename_i a b ha hb
     cases h
     obtain ⟨x', h1,h2⟩:=NR s x a (b ++ l) ha
     obtain ⟨xs', h3,h4⟩:=Gv ss xs b l hb
     refine ⟨x' :: xs', ?_,?_⟩
     · rw [List.append_assoc]; simp only [DX,h1,h3]
     · exact Xq.cons h2 h4
   · cases h
end
end Go.Proofs.YthoimblkpcikdaaGreatDoor.Mc
namespace Go.Proofs.YthoimblkpcikdaaGreatDoor.Mc
open Go.RowKit
variable [Mo]
set_option linter.constructorNameAsVariable false
variable {P:Program}{D:Ay}
inductive GC where
 | ar (e:TypeId) (r:Row)
 | bx (e:TypeId) (l:List Sh)
 | mp (t:MT)
 | mq (t:MT) (i:Nat)
 | si
 | mi (m:Nat)
 | gone
structure Jj where
 t:List (Nat × Sh)
 s:List (Nat × GC)
def BD:GC->Option XO->Option (List HV)
 | .ar e r,some (.ar e' r' xs)=>cond (Nat.beq e' e) (match Row.eq? r' r with | some h=>some [⟨.tl r,h.down ▸ xs⟩] | none=>none) none
 | .bx e l,some (.bx e' cells)=>cond (Nat.beq e' e) (Ln l cells) none
 | .mp t,some (.mp t' es)=>match MT.eq? t' t with | some h=>some [⟨.tm t,h.down ▸ es⟩] | none=>none
 | .mq t i,some (.mq t' es i' rest _)=>cond (Nat.beq i' i) (match MT.eq? t' t with | some h=>some [⟨.tq t,h.down ▸ (es,rest)⟩] | none=>none) none
 | .si,some (.si s pos)=>some [⟨.ts,s⟩,⟨.tn,pos⟩]
 | .mi m,some (.mi m')=>cond (Nat.beq m' m) (some []) none
 | .gone,none=>some []
 | _,_=>none
def OU:GC->List HV->Option XO × List HV
 | .ar e _,⟨.tl r,xs⟩ :: l=>(some (.ar e r xs),l)
 | .bx e ss,l=>let p:=DX ss l; (some (.bx e p.1),p.2)
 | .mp _,⟨.tm t,es⟩ :: l=>(some (.mp t es),l)
 | .mq _ i,⟨.tq t,p⟩ :: l=>(some (.mq t p.1 i p.2 []),l)
 | .si,⟨.ts,s⟩ :: ⟨.tn,pos⟩ :: l=>(some (.si s pos),l)
 | .mi m,l=>(some (.mi m),l)
 | _,l=>(none,l)
def rA (x y:Option XO):Prop:=x=y\/(∃ e xs ys,x=some (.bx e xs)/\y=some (.bx e ys)/\Xq (xs.map X.enc) (ys.map X.enc))\/(∃ t es i rest cu,x=some (.mq t es i rest cu)/\y=some (.mq t es i rest []))\/∃ e r xs,e < 1000000/\x=some (.ar e r xs)/\y=some (.ar (e+2000000) r xs)
omit [Mo] in
theorem MN:∀ (o:GC) (x:Option XO) (hs l:List HV),BD o x=some hs->∃ x', OU o (hs ++ l)=(x', l)/\rA x x'
 | .ar e r,some (.ar e' r' xs),hs,l,h=>by
   simp only [BD] at h
   cases hc:Nat.beq e' e with
   | false=>rw [hc] at h; cases h
   | true =>
     rw [hc] at h
     simp only [cond_true] at h
     split at h
     · rename_i g _
       obtain ⟨g⟩:=g
       subst g
       cases h
       exact ⟨_,rfl,.inl (by rw [Nat.eq_of_beq_eq_true hc])⟩
     · cases h
 | .bx e ss,some (.bx e' cells),hs,l,h=>by
   simp only [BD] at h
   cases hc:Nat.beq e' e with
   | false=>rw [hc] at h; cases h
   | true =>
     rw [hc] at h
     obtain ⟨xs', h1,h2⟩:=Gv ss cells hs l h
     refine ⟨some (.bx e xs'),by simp only [OU,h1],.inr (.inl ⟨e,cells,xs', by rw [Nat.eq_of_beq_eq_true hc],rfl,h2⟩)⟩
 | .mp t,some (.mp t' es),hs,l,h=>by
   simp only [BD] at h
   split at h
   · rename_i g _
     obtain ⟨g⟩:=g
     subst g
     cases h
     exact ⟨_,rfl,.inl rfl⟩
   · cases h
 | .mq t i,some (.mq t' es i' rest cu),hs,l,h=>by
   simp only [BD] at h
   cases hc:Nat.beq i' i with
   | false=>rw [hc] at h; cases h
   | true =>
     rw [hc] at h
     simp only [cond_true] at h
     split at h
     · rename_i g _
       obtain ⟨g⟩:=g
       subst g
       cases h
       exact ⟨_,rfl,.inr (.inr (.inl ⟨t', es,i,rest,cu,by rw [Nat.eq_of_beq_eq_true hc],rfl⟩))⟩
     · cases h
 | .mi m,some (.mi m'),hs,l,h=>by
   simp only [BD] at h
   obtain ⟨h1,rfl⟩:=AR h
   exact ⟨some (.mi m),rfl,.inl (by rw [Nat.eq_of_beq_eq_true h1])⟩
 | .si,some (.si s pos),hs,l,h=>by simp only [BD] at h; cases h; exact ⟨_,rfl,.inl rfl⟩
 | .gone,none,hs,l,h=>by simp only [BD] at h; cases h; exact ⟨none,by simp [OU],.inl rfl⟩
 | .ar _ _,none,_,_,h=>by simp [BD] at h
 | .ar _ _,some (.bx _ _),_,_,h=>by simp [BD] at h
 | .ar _ _,some (.mp _ _),_,_,h=>by simp [BD] at h
 | .ar _ _,some (.mq _ _ _ _ _),_,_,h=>by simp [BD] at h
 | .ar _ _,some (.si _ _),_,_,h=>by simp [BD] at h
 | .ar _ _,some (.mi _),_,_,h=>by simp [BD] at h
 | .bx _ _,none,_,_,h=>by simp [BD] at h
 | .bx _ _,some (.ar _ _ _),_,_,h=>by simp [BD] at h
 | .bx _ _,some (.mp _ _),_,_,h=>by simp [BD] at h
 | .bx _ _,some (.mq _ _ _ _ _),_,_,h=>by simp [BD] at h
 | .bx _ _,some (.si _ _),_,_,h=>by simp [BD] at h
 | .bx _ _,some (.mi _),_,_,h=>by simp [BD] at h
 | .mp _,none,_,_,h=>by simp [BD] at h
 | .mp _,some (.ar _ _ _),_,_,h=>by simp [BD] at h
 | .mp _,some (.bx _ _),_,_,h=>by simp [BD] at h
 | .mp _,some (.mq _ _ _ _ _),_,_,h=>by simp [BD] at h
 | .mp _,some (.si _ _),_,_,h=>by simp [BD] at h
 | .mp _,some (.mi _),_,_,h=>by simp [BD] at h
 | .mq _ _,none,_,_,h=>by simp [BD] at h
 | .mq _ _,some (.ar _ _ _),_,_,h=>by simp [BD] at h
 | .mq _ _,some (.bx _ _),_,_,h=>by simp [BD] at h
 | .mq _ _,some (.mp _ _),_,_,h=>by simp [BD] at h
 | .mq _ _,some (.si _ _),_,_,h=>by simp [BD] at h
 | .mq _ _,some (.mi _),_,_,h=>by simp [BD] at h
 | .si,none,_,_,h=>by simp [BD] at h
 | .si,some (.ar _ _ _),_,_,h=>by simp [BD] at h
 | .si,some (.bx _ _),_,_,h=>by simp [BD] at h
 | .si,some (.mp _ _),_,_,h=>by simp [BD] at h
 | .si,some (.mq _ _ _ _ _),_,_,h=>by simp [BD] at h
 | .si,some (.mi _),_,_,h=>by simp [BD] at h
 | .mi _,none,_,_,h=>by simp [BD] at h
 | .mi _,some (.ar _ _ _),_,_,h=>by simp [BD] at h
 | .mi _,some (.bx _ _),_,_,h=>by simp [BD] at h
 | .mi _,some (.mp _ _),_,_,h=>by simp [BD] at h
 | .mi _,some (.mq _ _ _ _ _),_,_,h=>by simp [BD] at h
 | .mi _,some (.si _ _),_,_,h=>by simp [BD] at h
 | .gone,some _,_,_,h=>by simp [BD] at h
def Vk:List (Nat × Sh)->XT->Option (List HV)
 | [],[]=>some []
 | (i,sh) :: l,(j,x) :: t=>cond (Nat.beq j i) (match Ax sh x,Vk l t with | some a,some b=>some (a ++ b) | _,_=>none) none
 | _,_=>none
def PZ:List (Nat × Sh)->List HV->XT × List HV
 | [],l=>([],l)
 | (i,sh) :: ss,l=>let p:=Bk sh l; let q:=PZ ss p.2; ((i,p.1) :: q.1,q.2)
def VQ:List (Nat × GC)->XS->Option (List HV)
 | [],[]=>some []
 | (o,sh) :: l,(p,x) :: t=>cond (Nat.beq p o) (match BD sh x,VQ l t with | some a,some b=>some (a ++ b) | _,_=>none) none
 | _,_=>none
def Ea:List (Nat × GC)->List HV->XS × List HV
 | [],l=>([],l)
 | (o,sh) :: ss,l=>let p:=OU sh l; let q:=Ea ss p.2; ((o,p.1) :: q.1,q.2)
inductive Zd:XT->XT->Prop where
 | nil:Zd [] []
 | cons (i:Nat) (x y:X) (t u:XT) (h:Wk x.enc y.enc) (k:Zd t u):Zd ((i,x) :: t) ((i,y) :: u)
inductive eR:XS->XS->Prop where
 | nil:eR [] []
 | cons (o:Nat) (x y:Option XO) (s u:XS) (h:rA x y) (k:eR s u):eR ((o,x) :: s) ((o,y) :: u)
omit [Mo] in
theorem Wi:∀ (ss:List (Nat × Sh)) (t:XT) (hs l:List HV),Vk ss t=some hs->∃ t', PZ ss (hs ++ l)=(t', l)/\Zd t t'
 | [],[],hs,l,h=>by simp only [Vk] at h; cases h; exact ⟨[],rfl,.nil⟩
 | (i, sh) :: ss,(j,x) :: t,hs,l,h=>by
   simp only [Vk] at h
   cases hc:Nat.beq j i with
   | false=>rw [hc] at h; cases h
   | true =>
     rw [hc] at h
     simp only [cond_true] at h
     split at h
     · rename_i a b ha hb
       cases h
       obtain ⟨x', h1,h2⟩:=NR sh x a (b ++ l) ha
       obtain ⟨t', h3,h4⟩:=Wi ss t b l hb
       refine ⟨(i,x') :: t', ?_,?_⟩
       · rw [List.append_assoc]; simp only [PZ,h1,h3]
       · rw [Nat.eq_of_beq_eq_true hc]; exact .cons _ _ _ _ _ h2 h4
     · cases h
 | [],_ :: _,_,_,h=>by simp [Vk] at h
 | _ :: _,[],_,_,h=>by simp [Vk] at h
omit [Mo] in
theorem Xi:∀ (ss:List (Nat × GC)) (t:XS) (hs l:List HV),VQ ss t=some hs->∃ t', Ea ss (hs ++ l)=(t', l)/\eR t t'
 | [],[],hs,l,h=>by simp only [VQ] at h; cases h; exact ⟨[],rfl,.nil⟩
 | (i, sh) :: ss,(j,x) :: t,hs,l,h=>by
   simp only [VQ] at h
   cases hc:Nat.beq j i with
   | false=>rw [hc] at h; cases h
   | true =>
     rw [hc] at h
     simp only [cond_true] at h
     split at h
     · rename_i a b ha hb
       cases h
       obtain ⟨x', h1,h2⟩:=MN sh x a (b ++ l) ha
       obtain ⟨t', h3,h4⟩:=Xi ss t b l hb
       refine ⟨(i,x') :: t', ?_,?_⟩
       · rw [List.append_assoc]; simp only [Ea,h1,h3]
       · rw [Nat.eq_of_beq_eq_true hc]; exact .cons _ _ _ _ _ h2 h4
     · cases h
 | [],_ :: _,_,_,h=>by simp [VQ] at h
 | _ :: _,[],_,_,h=>by simp [VQ] at h
omit [Mo] in
theorem Zd.get:∀ {t u:XT},Zd t u->∀ (i:Nat),(lk t i=none/\lk u i=none)\/∃ x y,lk t i=some x/\lk u i=some y/\Wk x.enc y.enc
 | _,_,.nil,i=>.inl ⟨rfl,rfl⟩
 | _,_,.cons j x y t u h k,i=>by
   rw [lk,lk]
   cases Nat.beq j i with
   | true=>exact .inr ⟨x,y,rfl,rfl,h⟩
   | false=>exact k.get i
theorem AO.sZ {B:BK} {w:World} {F:Nat->Prop} {loc:Nat->Option Loc} {s:AD} (hS:AO AW B w F loc s) {o:Nat} {kd:TypeDesc} {ag:Bool} {es:List (Value × List T)} {i:Nat} {rest cu:List (Value × List T)} (ho:s o=some (some (.mq kd ag es i rest cu))) :
   AO AW B w F loc (Am s o (some (some (.mq kd ag es i rest [])))):=by
 refine { hS with DJ:=fun o' obj h'=>?_,HO:=fun o' l hl'=>?_ }
 · by_cases hod:o' = o
   · subst hod
     rw [AA] at h'; cases h'
     obtain ⟨l,h1,h2⟩:=hS.DJ o' _ ho
     refine ⟨l,h1,?_⟩
     cases h2 with
     | mq _ _ _ _ _ _ b en clock vs vr c since c0 seen hb hm hi hc Cc=>exact .mq kd ag es i rest [] b en clock vs vr c since c0 seen hb hm hi hc ⟨Cc.sc,Cc.sk,Cc.Jk,Cc.Ox,Cc.al,[],⟨rfl,fun i k r h=>by simp at h⟩,fun k v h=>by simp at h⟩
     | Ug _ _ _ _ _ _ b en clock vs hb hm hi=>exact .Ug kd ag es i rest [] b en clock vs hb hm hi
   · rw [AM _ _ hod] at h'; exact hS.DJ o' obj h'
 · by_cases hod:o' = o
   · subst hod; exact ⟨_,AA _ _ _⟩
   · rw [AM _ _ hod]; exact hS.HO o' l hl'
theorem AO.uh {B:BK} {w:World} {F:Nat->Prop} {loc:Nat->Option Loc} {pre post:XS} {o:Nat} {x y:Option XO} (hS:AO AW B w F loc (encS (pre ++ (o,x) :: post))) (h:rA x y):AO AW B w F loc (encS (pre ++ (o,y) :: post)):=by
 have hsplit:∀ (z:Option XO),encS (pre ++ (o,z) :: post)=if (lk pre o).isSome then encS (pre ++ post) else Am (encS (pre ++ post)) o (some (z.map XO.enc)):=by
   intro z
   funext n
   unfold encS
   rw [AZ]
   by_cases hn:n=o
   · subst hn
     cases hp:lk pre n with
     | some q=>simp [AZ,hp]
     | none=>simp [lk,AA]
   · have hb:Nat.beq o n=false:=by rw [<- Bool.not_eq_true,Nat.beq_eq]; exact fun h=>hn h.symm
     rw [lk,hb,cond_false]
     by_cases hs:(lk pre o).isSome=true
     · rw [if_pos hs]; simp only [AZ]
     · rw [if_neg hs,AM _ _ hn]; simp only [AZ]
 have hu:∀ (y z:Option (Option O)),Am (Am (encS (pre ++ post)) o y) o z=Am (encS (pre ++ post)) o z:=by
   intro y z; funext m; by_cases hm:m=o
   · subst hm; simp [AA]
   · simp [AM _ _ hm]
 rcases h with rfl | ⟨e,xs,ys,rfl,rfl,hw⟩ | ⟨t,es,i,rest,cu,rfl,rfl⟩ | ⟨e,r,xs,he,rfl,rfl⟩
 rotate_right
 · rw [hsplit] at hS ⊢
   split at hS
   · rename_i hs; rw [if_pos hs]; exact hS
   · rename_i hs
     rw [if_neg hs]
     have:=hS.Vm (o:=o) (e:=e) (sz:=r.len) (rows:=xs.map r.en) (AA _ _ _) he
     rw [hu] at this
     exact this
 · exact hS
 · rw [hsplit] at hS ⊢
   split at hS
   · rename_i hs; rw [if_pos hs]; exact hS
   · rename_i hs
     rw [if_neg hs]
     have:=hS.nf (o:=o) (e:=e) (xs:=CJ xs) (ys:=CJ ys) (AA _ _ _) (by rw [Ae,Ae]; exact hw)
     rw [hu] at this
     exact this
 · rw [hsplit] at hS ⊢
   split at hS
   · rename_i hs; rw [if_pos hs]; exact hS
   · rename_i hs
     rw [if_neg hs]
     have:=hS.sZ (o:=o) (kd:=t.kt.desc) (ag:=t.ag) (es:=t.en es) (i:=i) (rest:=t.en rest) (cu:=t.en cu) (AA _ _ _)
     rw [hu] at this
     exact this
theorem AO.rD {B:BK}{w:World}{F:Nat->Prop}{loc:Nat->Option Loc}{post:XS}:∀ {s u:XS},eR s u->∀ (pre:XS),AO AW B w F loc (encS (pre ++ (s ++ post)))->AO AW B w F loc (encS (pre ++ (u ++ post)))
 | _,_,.nil,pre,h=>h
 | _,_,.cons o x y s u hw k,pre,h=>by
   have h1:=AO.uh (pre:=pre) (post:=s ++ post) h hw
   have h2:=AO.rD k (pre ++ [(o,y)]) (by simpa using h1)
   simpa using h2
theorem Conv.wk {E:XE}{t u:XT}{s v:XS}(ht:Zd t u)(hs:eR s v):Conv AW (AJ E ⟨t,s⟩) (AJ E ⟨u,v⟩):=by
 intro B F loc tmps w hR
 refine ⟨F,loc,⟨?_,fun i=>?_,hR.n,hR.a⟩⟩
 · exact AO.rD (pre:=[]) hs hR.s
 · have:=hR.t i
   show AH w F loc (Ci (u ++ E.t) i) _
   have h1:AH w F loc (Ci (t ++ E.t) i) (tmps.getD i undef):=this
   unfold Ci at h1 ⊢
   rw [AZ] at h1 ⊢
   rcases ht.get i with ⟨h2,h3⟩ | ⟨x,y,h2,h3,h4⟩
   · rw [h3]; rw [h2] at h1; exact h1
   · rw [h3]; rw [h2] at h1; exact h4 _ _ _ _ h1
def VL (tp:Jj)(st:BF):Option (List HV):=match Vk tp.t st.t,VQ tp.s st.s with | some a,some b=>some (a ++ b) | _,_=>none
def BH (tp:Jj)(l:List HV):BF:=let p:=PZ tp.t l; ⟨p.1,(Ea tp.s p.2).1⟩
theorem Conv.tpl {E:XE}{tp:Jj}{st:BF}{hs:List HV}(h:VL tp st=some hs):Conv AW (AJ E st) (AJ E (BH tp hs)):=by
 unfold VL at h
 split at h
 · rename_i a b ha hb
   cases h
   obtain ⟨t', h1,h2⟩:=Wi tp.t st.t a b ha
   obtain ⟨s', h3,h4⟩:=Xi tp.s st.s b [] hb
   rw [List.append_nil] at h3
   unfold BH
   simp only [h1,h3]
   exact Conv.wk h2 h4
 · cases h
structure Acc where
 ρ:Ren
 fz:List Nat
def Acc.pair (a:Acc)(o o':Nat):Acc:=cond (a.ρ.any fun p=>Nat.beq p.1 o) a ⟨a.ρ ++ [(o,o')],a.fz⟩
def Acc.BP (a:Acc)(o:Nat):Acc:=⟨a.ρ,a.fz ++ [o]⟩
mutual
def RK:Sh->X->Acc->Acc
 | .fz _ _,.sl _ o,a=>a.BP o
 | .fz _ _,.sw o _ _,a=>a.BP o
 | .sl _ o,.sl _ o', a=>a.pair o o'
 | .sw o,.sw o' _ _,a=>a.pair o o'
 | .pt o _,.pt o' _,a=>a.pair o o'
 | .pe o _,.pe o' _ _,a=>a.pair o o'
 | .mp o,.mp o', a=>a.pair o o'
 | .it o,.it o', a=>a.pair o o'
 | .sp o,.sp o', a=>a.pair o o'
 | .sp o,.pt o' _,a=>a.pair o o'
 | .fn _ l,.fn _ xs,a=>Gr l xs a
 | .ag l,.ag xs,a=>Gr l xs a
 | .tp l,.tp xs,a=>Gr l xs a
 | .Aw _ s,.Aw _ x,a=>RK s x a
 | _,_,a=>a
def Gr:List Sh->List X->Acc->Acc
 | s :: l,x :: xs,a=>Gr l xs (RK s x a)
 | _,_,a=>a
end
def me (tp:Jj)(o:Nat):Option (Nat × Row):=match lk tp.s o with | some (.ar e r)=>some (e,r) | _=>none
def bl:Sh->Option Nat | .sl _ o=>some o | _=>none
def QM (s:XS):Nat->Nat->Nat
 | 0,n=>n
 | k+1,n=>match lk s n with | none=>n | some _=>QM s k (n+1)
def PV (E:XE) (tp:Jj):List (Nat × Sh)->Acc->BF->Option (Acc × BF)
 | [],a,st=>some (a,st)
 | (i, sh) :: l,a,st=>match bl sh,Dc (ZP E st i) with
   | some o,true=>match me tp o with
     | some (e,r)=>match Gi E i (QM (st.s ++ E.s) 50 (o+600000)) e r st with
       | some st'=>PV E tp l (a.pair o (QM (st.s ++ E.s) 50 (o+600000))) st'
       | none=>none
     | none=>none
   | _,_=>PV E tp l (RK sh (ZP E st i) a) st
def Mw (E:XE) (tp:Jj) (m:Nat):Nat->List Sh->List X->Acc->BF->Option (Acc × BF)
 | j,sh :: l,x :: xs,a,st=>match bl sh,Dc x with
   | some o,true=>match me tp o with
     | some (e,r)=>match Il E m j (QM (st.s ++ E.s) 50 (o+600000)) e r st with
       | some st'=>Mw E tp m (j+1) l xs (a.pair o (QM (st.s ++ E.s) 50 (o+600000))) st'
       | none=>none
     | none=>none
   | _,_=>Mw E tp m (j+1) l xs (RK sh x a) st
 | _,_,_,a,st=>some (a,st)
def nameOf (a:Acc)(n:Nat):Nat:=match lk a.ρ n with | some m=>m | none=>n
def EZ (E:XE) (tp:Jj):List (Nat × GC)->Acc->BF->Option (Acc × BF)
 | [],a,st=>some (a,st)
 | (n,.bx _ l) :: r,a,st=>match lk st.s (nameOf a n) with
   | some (some (.bx _ cells))=>match Mw E tp (nameOf a n) 0 l cells a st with
     | some (a', st')=>EZ E tp r a' st'
     | none=>none
   | _=>EZ E tp r a st
 | _ :: r,a,st=>EZ E tp r a st
def Ek (E:XE):List Nat->BF->Option BF
 | [],st=>some st
 | o :: l,st=>match lk st.s o with
   | some (some (.ar _ _ _))=>match Df E o st with
     | some st'=>Ek E l st'
     | none=>none
   | _=>Ek E l st
def UC (E:XE) (o d:Nat) (st:BF):Option BF :=
 match lk st.s o with
 | some (some x)=>cond ((lk (st.s ++ E.s) d).isNone && E.t.all (fun p=>p.2.FB (SC o)) && E.s.all (fun p=>SC o p.1 && iV (SC o) p.2))
     (some ⟨st.t.map fun p=>(p.1,p.2.AX (Px o d)),(o,none) :: (d,some (x.AX (Px o d))) :: st.s.map fun p=>(p.1,p.2.map (XO.AX (Px o d)))⟩) none
 | _=>none
def FQ (E:XE):List (Nat × GC)->BF->Option BF
 | [],st=>some st
 | (n,.gone) :: l,st=>match lk st.s n with
   | some (some _)=>match UC E n (QM (st.s ++ E.s) 50 (n+800000)) st with
     | some st'=>FQ E l st'
     | none=>none
   | _=>FQ E l st
 | _ :: l,st=>FQ E l st
def OV:List (Nat × GC)->XS->XS
 | (_,.ar e _) :: l,(m,some (.ar e' r xs)) :: s=>(m,some (.ar (cond (Nat.beq e (e' + 2000000) && Nat.blt e' 1000000) (e' + 2000000) e') r xs)) :: OV l s
 | _ :: l,x :: s=>x :: OV l s
 | [],s=>s
 | _,[]=>[]
def CA (E:XE) (tp:Jj) (st:BF):Option (List HV) :=
 match FQ E tp.s st with
 | none=>none
 | some ID=>match PV E tp tp.t ⟨[],[]⟩ ID with
   | none=>none
   | some (a,st1)=>match EZ E tp tp.s a st1 with
     | none=>none
     | some (a2,st2)=>match Ek E a2.fz st2 with
       | none=>none
       | some st3=>match Sz E (tp.t.map (·.1)) (tp.s.map fun p=>(nameOf a2 p.1,p.1)) st3 with
         | none=>none
         | some st4=>VL tp ⟨st4.t,OV tp.s st4.s⟩
omit [Mo] in
theorem dV {o d:Nat}:∀ n,SC o n=true->KR (Px o d) n=true:=by
 intro n h
 unfold SC at h
 simp only [Bool.not_eq_true'] at h
 unfold KR Px
 simp only [h,cond_false,Nat.beq_refl]
omit [Mo] in
mutual
theorem X.FI {p q:Nat->Bool}(h:∀ n,p n=true->q n=true):∀ (x:X),x.FB p=true->x.FB q=true
 | .sl _ o,k=>h o k
 | .sw o _ _,k=>h o k
 | .pt o _,k=>h o k
 | .pe o _ _,k=>h o k
 | .mp o,k=>h o k
 | .it o,k=>h o k
 | .sp o,k=>h o k
 | .fn _ caps,k=>EJ h caps k
 | .ag cs,k=>EJ h cs k
 | .tp cs,k=>EJ h cs k
 | .Aw _ x,k=>X.FI h x k
 | .c _,_=>rfl
 | .i _ _,_=>rfl
 | .b _,_=>rfl
 | .s _,_=>rfl
 | .fz _ _ _,_=>rfl
 | .pf _ _ _,_=>rfl
 | .dead,_=>rfl
theorem EJ {p q:Nat->Bool}(h:∀ n,p n=true->q n=true):∀ (xs:List X),El p xs=true->El q xs=true
 | [],_=>rfl
 | x :: xs,k=>by
   simp only [El,Bool.and_eq_true] at k ⊢
   exact ⟨X.FI h x k.1,EJ h xs k.2⟩
end
omit [Mo] in
theorem XO.FI {p q:Nat->Bool}(h:∀ n,p n=true->q n=true)(x:XO)(k:x.FB p=true):x.FB q=true:=by
 cases x with
 | bx e cells=>exact EJ h cells k
 | mq t es i rest cu=>exact h i k
 | mi m=>exact h m k
 | _=>rfl
theorem Conv.UC {E:XE} {o d:Nat} {st st':BF} (h:Mc.UC E o d st=some st'):Conv AW (AJ E st) (AJ E st'):=by
 unfold Mc.UC at h
 split at h
 · rename_i x hl
   obtain ⟨hc,rfl⟩:=AR h
   simp only [Bool.and_eq_true] at hc
   obtain ⟨⟨h0,h1⟩,h2⟩:=hc
   rw [List.all_eq_true] at h1 h2
   have fix:∀ n,SC o n=true->KR (Px o d) n=true:=dV
   have ho:encS (st.s ++ E.s) o=some (some x.enc):=by unfold encS; rw [AZ,hl]; rfl
   have:=Conv.move (G:=AW) (t:=Ci (st.t ++ E.t)) (s:=encS (st.s ++ E.s)) (m:=E.n) (a:=E.a) o d (by rw [ho]; rfl) (Js h0)
   have hod:o ≠ d:=by
     rintro rfl
     rw [Option.isNone_iff_eq_none,AZ,hl] at h0; cases h0
   have e1:(fun i=>(Ci (st.t ++ E.t) i).AX (Px o d))=Ci ((st.t.map fun p=>(p.1,p.2.AX (Px o d))) ++ E.t):=by
     funext i
     rw [Ft,Ft,<- X.CH,AZ,AZ,Me (fun _ x=>X.AX (Px o d) x)]
     cases lk st.t i with
     | some x=>rfl
     | none =>
       simp only [Option.map_none]
       cases he:lk E.t i with
       | none=>rfl
       | some x=>simp only; rw [X.FW _ x (X.FI fix x (h1 _ (Cm he)))]
   have e2 : dS o d (encS (st.s ++ E.s))=encS (((o,none) :: (d,some (x.AX (Px o d))) :: st.s.map fun p=>(p.1,p.2.map (XO.AX (Px o d)))) ++ E.s):=by
     funext n
     unfold dS
     simp only [ho,Option.map_some]
     unfold encS
     simp only [List.cons_append,lk]
     by_cases hn:n=o
     · subst hn; simp
     · have hb:Nat.beq n o=false:=by rw [<- Bool.not_eq_true,Nat.beq_eq]; exact hn
       have hb':Nat.beq o n=false:=by rw [<- Bool.not_eq_true,Nat.beq_eq]; exact fun e=>hn e.symm
       rw [hb,hb', cond_false,cond_false]
       by_cases hd:n=d
       · subst hd; simp [XO.CH]
       · have hc:Nat.beq n d=false:=by rw [<- Bool.not_eq_true,Nat.beq_eq]; exact hd
         have hc':Nat.beq d n=false:=by rw [<- Bool.not_eq_true,Nat.beq_eq]; exact fun e=>hd e.symm
         rw [hc,hc', cond_false,cond_false,AZ,AZ,Me (fun (_:Nat) (x:Option XO)=>x.map (XO.AX (Px o d)))]
         cases hs:lk st.s n with
         | some x=>cases x <;> simp [XO.CH]
         | none =>
           simp only [Option.map_none]
           cases he:lk E.s n with
           | none=>rfl
           | some x =>
             have:=h2 _ (Cm he)
             simp only [Bool.and_eq_true] at this
             cases x with
             | none=>rfl
             | some y=>simp only [Option.map_some]; rw [<- XO.CH,XO.FW _ y (XO.FI fix y this.2)]
   show Conv AW ⟨_,_,_,_⟩ ⟨_,_,_,_⟩
   rw [e1,e2] at this
   exact this
 · cases h
theorem CD {E:XE}:∀ {l:List (Nat × GC)} {st st':BF},FQ E l st=some st' -> Conv AW (AJ E st) (AJ E st')
 | [],st,st', h=>by simp only [FQ] at h; cases h; exact Conv.refl _
 | (n, .gone) :: l,st,st', h=>by
   simp only [FQ] at h
   split at h
   · split at h
     · rename_i st1 h1
       exact Conv.trans (Conv.UC h1) (CD h)
     · cases h
   · exact CD h
 | (n,.ar _ _) :: l,st,st', h=>by simp only [FQ] at h; exact CD h
 | (n,.bx _ _) :: l,st,st', h=>by simp only [FQ] at h; exact CD h
 | (n,.si) :: l,st,st', h=>by simp only [FQ] at h; exact CD h
 | (n,.mp _) :: l,st,st', h=>by simp only [FQ] at h; exact CD h
 | (n,.mq _ _) :: l,st,st', h=>by simp only [FQ] at h; exact CD h
 | (n,.mi _) :: l,st,st', h=>by simp only [FQ] at h; exact CD h
theorem Hf {E:XE} {tp:Jj}:∀ {l:List (Nat × Sh)} {a a':Acc} {st st':BF},PV E tp l a st=some (a', st')->Conv AW (AJ E st) (AJ E st')
 | [],a,a', st,st', h=>by simp only [PV] at h; cases h; exact Conv.refl _
 | (i, sh) :: l,a,a', st,st', h=>by
   simp only [PV] at h
   split at h
   · split at h
     · split at h
       · rename_i st1 h1
         exact Conv.trans (Conv.Gi h1) (Hf h)
       · cases h
     · cases h
   · exact Hf h
theorem IL {E:XE} {tp:Jj} {m:Nat}:∀ {j:Nat} {l:List Sh} {xs:List X} {a a':Acc} {st st':BF},Mw E tp m j l xs a st=some (a', st')->Conv AW (AJ E st) (AJ E st')
 | j, sh :: l,x :: xs,a,a', st,st', h=>by
   simp only [Mw] at h
   split at h
   · split at h
     · split at h
       · rename_i st1 h1
         exact Conv.trans (Conv.Il h1) (IL h)
       · cases h
     · cases h
   · exact IL h
 | _,[],_,a,a', st,st', h=>by simp only [Mw] at h; cases h; exact Conv.refl _
 | _,_ :: _,[],a,a', st,st', h=>by simp only [Mw] at h; cases h; exact Conv.refl _
theorem Bp {E:XE} {tp:Jj}:∀ {l:List (Nat × GC)} {a a':Acc} {st st':BF},EZ E tp l a st=some (a', st')->Conv AW (AJ E st) (AJ E st')
 | [],a,a', st,st', h=>by simp only [EZ] at h; cases h; exact Conv.refl _
 | (n, .bx e ss) :: l,a,a', st,st', h=>by
   simp only [EZ] at h
   split at h
   · split at h
     · rename_i a1 st1 h1
       exact Conv.trans (IL h1) (Bp h)
     · cases h
   · exact Bp h
 | (n,.ar _ _) :: l,a,a', st,st', h=>by simp only [EZ] at h; exact Bp h
 | (n,.si) :: l,a,a', st,st', h=>by simp only [EZ] at h; exact Bp h
 | (n,.mp _) :: l,a,a', st,st', h=>by simp only [EZ] at h; exact Bp h
 | (n,.mq _ _) :: l,a,a', st,st', h=>by simp only [EZ] at h; exact Bp h
 | (n,.mi _) :: l,a,a', st,st', h=>by simp only [EZ] at h; exact Bp h
 | (n,.gone) :: l,a,a', st,st', h=>by simp only [EZ] at h; exact Bp h
theorem Cu {E:XE}:∀ {l:List Nat} {st st':BF},Ek E l st=some st' -> Conv AW (AJ E st) (AJ E st')
 | [],st,st', h=>by simp only [Ek] at h; cases h; exact Conv.refl _
 | o :: l,st,st', h=>by
   simp only [Ek] at h
   split at h
   · split at h
     · rename_i st1 h1
       exact Conv.trans (Conv.Df h1) (Cu h)
     · cases h
   · exact Cu h
omit [Mo] in
theorem Zd.self:∀ (t:XT),Zd t t
 | []=>.nil
 | p :: t=>.cons p.1 p.2 p.2 t t (Wk.refl _) (Zd.self t)
omit [Mo] in
theorem UN : ∀ (l:List (Nat × GC)) (s:XS),eR s (OV l s)
 | [],s=>by
   have:∀ s:XS,eR s s:=fun s=>by
     induction s with
     | nil=>exact .nil
     | cons p s ih=>exact .cons p.1 p.2 p.2 s s (.inl rfl) ih
   simp only [OV]
   exact this s
 | p :: l,[]=>by
   have:OV (p :: l) []=[]:=by
     obtain ⟨n,o⟩:=p
     cases o <;> rfl
   rw [this]
   exact .nil
 | (n, o) :: l,(m,x) :: s=>by
   have ih:=UN l s
   cases o with
   | ar e r0 =>
     cases x with
     | none=>exact .cons m none none s _ (.inl rfl) ih
     | some x =>
       cases x with
       | ar e' r xs =>
         simp only [OV]
         cases hc:Nat.beq e (e' + 2000000) && Nat.blt e' 1000000 with
         | false=>exact .cons m _ _ s _ (.inl rfl) ih
         | true =>
           simp only [Bool.and_eq_true] at hc
           exact .cons m _ _ s _ (.inr (.inr (.inr ⟨e', r,xs,by simpa using hc.2,rfl,rfl⟩))) ih
       | _=>exact .cons m _ _ s _ (.inl rfl) ih
   | _=>exact .cons m x x s _ (.inl rfl) ih
theorem Conv.CA {E:XE} {tp:Jj} {st:BF} {hs:List HV} (h:Mc.CA E tp st=some hs):Conv AW (AJ E st) (AJ E (BH tp hs)):=by
 unfold Mc.CA at h
 split at h
 · cases h
 · rename_i ID h0
   split at h
   · cases h
   · rename_i a st1 h1
     split at h
     · cases h
     · rename_i a2 st2 h2
       split at h
       · cases h
       · rename_i st3 h3
         split at h
         · cases h
         · rename_i st4 h4
           exact (CD h0).trans ((Hf h1).trans ((Bp h2).trans ((Cu h3).trans ((Conv.Sz h4).trans ((Conv.wk (Zd.self _) (UN tp.s st4.s)).trans (Conv.tpl h))))))
end Go.Proofs.YthoimblkpcikdaaGreatDoor.Mc
namespace Go.Proofs.YthoimblkpcikdaaGreatDoor.Mc
open Go.RowKit
variable [Mo]
set_option linter.constructorNameAsVariable false
variable {P:Program}{D:Ay}
def Eo:List (List Al)->Type
 | []=>Empty
 | [h]=>Tup h
 | h :: g :: t=>Tup h ⊕ Eo (g :: t)
def HX:(hs:List (List Al))->Nat->List HV->Option (Eo hs)
 | [],_,_=>none
 | [h],0,l=>EB h l
 | [_],_+1,_=>none
 | h :: _ :: _,0,l=>match EB h l with | some y=>some (.inl y) | none=>none
 | _ :: g :: t,i+1,l=>match HX (g :: t) i l with | some y=>some (.inr y) | none=>none
def BM.{u}{α β:Type}{γ:Sort u}(f:α->γ)(g:β->γ):α ⊕ β->γ
 | .inl x=>f x
 | .inr y=>g y
def Az.{u}{β:Sort u}:(hs:List (List Al))->Eo hs->(Nat->List HV->β)->β
 | [],x,_=>x.elim
 | [h],y,f=>f 0 (Bd h y)
 | h :: g :: t,x,f=>BM (fun y=>f 0 (Bd h y)) (fun z=>Az (g :: t) z fun i l=>f (i+1) l) x
omit [Mo] in
theorem RI.{u}{β:Sort u}:∀ (hs:List (List Al)) (i:Nat) (l:List HV) (y:Eo hs) (f:Nat->List HV->β),HX hs i l=some y->Az hs y f=f i l
 | [h],0,l,y,f,k=>by simp only [Az]; rw [DY h l y k]
 | [_],_+1,_,_,_,k=>by simp [HX] at k
 | [],_,_,y,_,_=>y.elim
 | h :: g :: t,0,l,y,f,k=>by
   simp only [HX] at k
   split at k
   · rename_i z hz; cases k; simp only [Az,BM]; rw [DY h l z hz]
   · cases k
 | h :: g :: t,i+1,l,y,f,k=>by
   simp only [HX] at k
   split at k
   · rename_i z hz; cases k; simp only [Az,BM]; rw [RI (g :: t) i l z _ hz]
   · cases k
omit [Mo] in
theorem KQ:∀ (hs:List (List Al)) (y:Eo hs) {p q:Nat->List HV->Prop},(∀ i l,p i l->q i l)->Az hs y p->Az hs y q
 | [],y,_,_,_=>y.elim
 | [_],_,_,_,h=>h _ _
 | _ :: _ :: _,.inl _,_,_,h=>h _ _
 | _ :: g :: t,.inr z,_,_,h=>KQ (g :: t) z fun i l=>h (i+1) l
omit [Mo] in
theorem KB {α:Type}{r:α}:∀ (hs:List (List Al)) (y:Eo hs) {f:Nat->List HV->Option α} {p:Nat->List HV->Prop},Az hs y f=some r->Az hs y p->∃ i l,f i l=some r/\p i l
 | [],y,_,_,_,_=>y.elim
 | [_],_,_,_,h,k=>⟨_,_,h,k⟩
 | _ :: _ :: _,.inl _,_,_,h,k=>⟨_,_,h,k⟩
 | _ :: g :: t,.inr z,f,p,h,k=>by
   obtain ⟨i,l,h1,h2⟩:=KB (g :: t) z (f:=fun i l=>f (i+1) l) (p:=fun i l=>p (i+1) l) h k
   exact ⟨_,_,h1,h2⟩
structure AQ where
 a:List Sh
 o:List (Nat × GC)
structure AP where
 v:Sh
 o:List (Nat × GC)
 h:List Al
def Fp (A:AQ)(l:List HV):List X × XS:=let p:=DX A.a l; (p.1,(Ea A.o p.2).1)
def HZ (R:AP)(l:List HV):X × XS:=let p:=Bk R.v l; (p.1,(Ea R.o p.2).1)
def ER (R:List AP)(i:Nat):AP:=match R[i]? with | some r=>r | none=>⟨.dead,[],[]⟩
def OY (P:Program)(f:FuncId)(vs:List X)(s:XS)(r:X)(s1:XS):Prop:=CT P AW f (vs.map X.enc) (encS s) fun r' s'=>r' = r.enc/\s' = encS s1
def cJ:Nl->Nl->Bool | .e,.e=>true | .n,.n=>true | .u,.u=>true | _,_=>false
omit [Mo] in
theorem Xr {a b:Nl}(h:cJ a b=true):a=b:=by cases a <;> cases b <;> first | rfl | cases h
mutual
def Mb:Sh->X->Bool
 | .fz nl _,.fz nl' _ _=>cJ nl nl'
 | .fz _ _,.c _=>false
 | .sp _,.pt _ _=>false
 | .sp _,.c _=>false
 | .sl nl _,.sl nl' _=>cJ nl nl'
 | .fn _ l,.fn _ xs=>iM l xs
 | .ag l,.ag xs=>iM l xs
 | .tp l,.tp xs=>iM l xs
 | .Aw _ s,.Aw _ x=>Mb s x
 | .dead,_=>false
 | _,_=>true
def iM:List Sh->List X->Bool
 | s :: l,x :: xs=>Mb s x && iM l xs
 | _,_=>true
end
omit [Mo] in
mutual
theorem Ub:∀ (sh:Sh) (x:X) (hs l:List HV),Ax sh x=some hs->Mb sh x=true->Bk sh (hs ++ l)=(x,l)
 | .dead,x,hs,l,h,k=>by simp [Mb] at k
 | .i k,.i k' n,hs,l,h,_=>by
   simp only [Ax] at h
   split at h
   · rename_i hk; cases h; subst hk; rfl
   · cases h
 | .b,.b q,hs,l,h,_=>by simp only [Ax] at h; cases h; rfl
 | .s,.s q,hs,l,h,_=>by simp only [Ax] at h; cases h; rfl
 | .li k m,.i k' n,hs,l,h,_=>by
   simp only [Ax] at h
   split at h
   · rename_i hk; cases h; obtain ⟨rfl,rfl⟩:=hk; rfl
   · cases h
 | .lb p,.b q,hs,l,h,_=>by
   simp only [Ax] at h
   split at h
   · rename_i hk; cases h; subst hk; rfl
   · cases h
 | .c v,.c w,hs,l,h,_=>by
   simp only [Ax] at h
   obtain ⟨h1,rfl⟩:=AR h
   rw [NG h1]; rfl
 | .fz nl r,.fz nl' r' xs,hs,l,h,k=>by
   simp only [Ax] at h
   cases hc:Xy nl' nl with
   | false=>rw [hc] at h; cases h
   | true =>
     rw [hc] at h
     simp only [cond_true] at h
     split at h
     · rename_i g _
       obtain ⟨g⟩:=g
       subst g
       cases h
       have k':cJ nl nl' = true:=by simpa [Mb] using k
       have:=Xr k'
       subst this; rfl
     · cases h
 | .sl nl o,.sl nl' o', hs,l,h,k=>by
   simp only [Ax] at h
   obtain ⟨h1,rfl⟩:=AR h
   simp only [Bool.and_eq_true] at h1
   have k':cJ nl nl' = true:=by simpa [Mb] using k
   have:=Xr k'
   subst this
   rw [Nat.eq_of_beq_eq_true h1.2]; rfl
 | .sw o,.sw o' off len,hs,l,h,_=>by
   simp only [Ax] at h
   obtain ⟨h1,rfl⟩:=AR h
   rw [Nat.eq_of_beq_eq_true h1]; rfl
 | .pt o off,.pt o' off', hs,l,h,_=>by
   simp only [Ax] at h
   obtain ⟨h1,rfl⟩:=AR h
   simp only [Bool.and_eq_true] at h1
   rw [Nat.eq_of_beq_eq_true h1.1,Nat.eq_of_beq_eq_true h1.2]; rfl
 | .pe o off,.pe o' i off', hs,l,h,_=>by
   simp only [Ax] at h
   obtain ⟨h1,rfl⟩:=AR h
   simp only [Bool.and_eq_true] at h1
   rw [Nat.eq_of_beq_eq_true h1.1,Nat.eq_of_beq_eq_true h1.2]; rfl
 | .pf r off,.pf r' x off', hs,l,h,_=>by
   simp only [Ax] at h
   cases hc:Nat.beq off' off with
   | false=>rw [hc] at h; cases h
   | true =>
     rw [hc] at h
     simp only [cond_true] at h
     split at h
     · rename_i g _
       obtain ⟨g⟩:=g
       subst g
       cases h; rw [Nat.eq_of_beq_eq_true hc]; rfl
     · cases h
 | .mp o,.mp o', hs,l,h,_=>by
   simp only [Ax] at h
   obtain ⟨h1,rfl⟩:=AR h
   rw [Nat.eq_of_beq_eq_true h1]; rfl
 | .it o,.it o', hs,l,h,_=>by
   simp only [Ax] at h
   obtain ⟨h1,rfl⟩:=AR h
   rw [Nat.eq_of_beq_eq_true h1]; rfl
 | .sp o,.sp o', hs,l,h,_=>by
   simp only [Ax] at h
   obtain ⟨h1,rfl⟩:=AR h
   rw [Nat.eq_of_beq_eq_true h1]; rfl
 | .fn f ss,.fn f' xs,hs,l,h,k=>by
   simp only [Ax] at h
   cases hc:Nat.beq f' f with
   | false=>rw [hc] at h; cases h
   | true =>
     rw [hc] at h
     have:=Iu ss xs hs l h (by simpa only [Mb] using k)
     simp only [Bk,this,Nat.eq_of_beq_eq_true hc]
 | .ag ss,.ag xs,hs,l,h,k=>by
   simp only [Ax] at h
   simp only [Bk,Iu ss xs hs l h (by simpa only [Mb] using k)]
 | .tp ss,.tp xs,hs,l,h,k=>by
   simp only [Ax] at h
   simp only [Bk,Iu ss xs hs l h (by simpa only [Mb] using k)]
 | .Aw t s,.Aw t' x,hs,l,h,k=>by
   simp only [Ax] at h
   cases hc:Nat.beq t' t with
   | false=>rw [hc] at h; cases h
   | true =>
     rw [hc] at h
     simp only [Bk,Ub s x hs l h (by simpa only [Mb] using k),Nat.eq_of_beq_eq_true hc]
 | .fz _ _,.c _,_,_,_,k=>by simp [Mb] at k
theorem Iu:∀ (ss:List Sh) (xs:List X) (hs l:List HV),Ln ss xs=some hs->iM ss xs=true->DX ss (hs ++ l)=(xs,l)
 | [],[],hs,l,h,_=>by simp only [Ln] at h; cases h; rfl
 | s :: ss,x :: xs,hs,l,h,k=>by
   simp only [Ln] at h
   simp only [iM,Bool.and_eq_true] at k
   split at h
   · rename_i a b ha hb
     cases h
     rw [List.append_assoc]
     simp only [DX,Ub s x a (b ++ l) ha k.1,Iu ss xs b l hb k.2]
   · cases h
end
def tT:GC->XO->Bool
 | .bx _ l,.bx _ cells=>iM l cells
 | .mq _ _,.mq _ _ _ _ cu=>List.isEmpty cu
 | _,_=>true
omit [Mo] in
theorem ej (o:GC) (x:XO) (hs l:List HV) (h:BD o (some x)=some hs) (k:tT o x=true):OU o (hs ++ l)=(some x,l):=by
 cases o with
 | bx e ss =>
   cases x with
   | bx e' cells =>
     simp only [BD] at h
     cases hc:Nat.beq e' e with
     | false=>rw [hc] at h; cases h
     | true =>
       rw [hc] at h
       simp only [OU,Iu ss cells hs l h k,Nat.eq_of_beq_eq_true hc]
   | _=>simp [BD] at h
 | ar e r =>
   cases x with
   | ar e' r' xs =>
     simp only [BD] at h
     cases hc:Nat.beq e' e with
     | false=>rw [hc] at h; cases h
     | true =>
       rw [hc] at h
       simp only [cond_true] at h
       split at h
       · rename_i g _
         obtain ⟨g⟩:=g
         subst g
         cases h
         rw [Nat.eq_of_beq_eq_true hc]; rfl
       · cases h
   | _=>simp [BD] at h
 | si =>
   cases x with
   | si s pos=>simp only [BD] at h; cases h; rfl
   | _=>simp [BD] at h
 | mp t =>
   cases x with
   | mp t' es =>
     simp only [BD] at h
     split at h
     · rename_i g _
       obtain ⟨g⟩:=g
       subst g
       cases h; rfl
     · cases h
   | _=>simp [BD] at h
 | mq t i =>
   cases x with
   | mq t' es i' rest cu =>
     simp only [BD] at h
     cases hc:Nat.beq i' i with
     | false=>rw [hc] at h; cases h
     | true =>
       rw [hc] at h
       simp only [cond_true] at h
       split at h
       · rename_i g _
         obtain ⟨g⟩:=g
         subst g
         cases h
         have hcu:cu=[]:=List.isEmpty_iff.1 (by simpa only [tT] using k)
         rw [Nat.eq_of_beq_eq_true hc,hcu]; rfl
       · cases h
   | _=>simp [BD] at h
 | mi m =>
   cases x with
   | mi m' =>
     simp only [BD] at h
     obtain ⟨h1,rfl⟩:=AR h
     rw [Nat.eq_of_beq_eq_true h1]; rfl
   | _=>simp [BD] at h
 | gone=>simp [BD] at h
omit [Mo] in
mutual
theorem X.JC (f g:Nat->Option Nat)(hfg:∀ n m,g n=some m->f m=some n):∀ (x:X),x.FB (fun n=>(g n).isSome)=true->(x.AX g).AX f=x
 | .sl nl o,h=>by have h':(g o).isSome=true:=h; obtain ⟨m,hm⟩:=Option.isSome_iff_exists.1 h'; simp only [X.AX,hm,hfg _ _ hm]
 | .sw o off len,h=>by have h':(g o).isSome=true:=h; obtain ⟨m,hm⟩:=Option.isSome_iff_exists.1 h'; simp only [X.AX,hm,hfg _ _ hm]
 | .pt o off,h=>by have h':(g o).isSome=true:=h; obtain ⟨m,hm⟩:=Option.isSome_iff_exists.1 h'; simp only [X.AX,hm,hfg _ _ hm]
 | .pe o i off,h=>by have h':(g o).isSome=true:=h; obtain ⟨m,hm⟩:=Option.isSome_iff_exists.1 h'; simp only [X.AX,hm,hfg _ _ hm]
 | .mp o,h=>by have h':(g o).isSome=true:=h; obtain ⟨m,hm⟩:=Option.isSome_iff_exists.1 h'; simp only [X.AX,hm,hfg _ _ hm]
 | .it o,h=>by have h':(g o).isSome=true:=h; obtain ⟨m,hm⟩:=Option.isSome_iff_exists.1 h'; simp only [X.AX,hm,hfg _ _ hm]
 | .sp o,h=>by have h':(g o).isSome=true:=h; obtain ⟨m,hm⟩:=Option.isSome_iff_exists.1 h'; simp only [X.AX,hm,hfg _ _ hm]
 | .fn _ caps,h=>by simp only [X.AX,EA f g hfg caps h]
 | .ag cs,h=>by simp only [X.AX,EA f g hfg cs h]
 | .tp cs,h=>by simp only [X.AX,EA f g hfg cs h]
 | .Aw t x,h=>by simp only [X.AX,X.JC f g hfg x h]
 | .c v,_=>rfl
 | .i k n,_=>rfl
 | .b q,_=>rfl
 | .s s,_=>rfl
 | .fz nl r xs,_=>rfl
 | .pf r x off,_=>rfl
 | .dead,_=>rfl
theorem EA (f g:Nat->Option Nat)(hfg:∀ n m,g n=some m->f m=some n):∀ (xs:List X),El (fun n=>(g n).isSome) xs=true->EY f (EY g xs)=xs
 | [],_=>rfl
 | x :: xs,h=>by
   simp only [El,Bool.and_eq_true] at h
   simp only [EY,X.JC f g hfg x h.1,EA f g hfg xs h.2]
end
omit [Mo] in
theorem XO.JC (f g:Nat->Option Nat)(hfg:∀ n m,g n=some m->f m=some n)(x:XO)(h:x.FB (fun n=>(g n).isSome)=true):(x.AX g).AX f=x:=by
 cases x with
 | bx e cells=>simp only [XO.AX,EA f g hfg cells h]
 | mq t es i rest cu =>
   have h':(g i).isSome=true:=h
   obtain ⟨m,hm⟩:=Option.isSome_iff_exists.1 h'
   simp only [XO.AX,hm,hfg _ _ hm]
 | mi n =>
   have h':(g n).isSome=true:=h
   obtain ⟨m,hm⟩:=Option.isSome_iff_exists.1 h'
   simp only [XO.AX,hm,hfg _ _ hm]
 | _=>rfl
def Cl:List Nat->XS->XS
 | [],_=>[]
 | n :: l,s=>match lk s n with | some x=>(n,x) :: Cl l s | none=>Cl l s
structure Au (P:Program) where
 f:FuncId
 fn:Func
 ZQ:P.funcs[f]? = some fn
 LU:(fn.name == "runtime.NumGoroutine")=false
 hb:fn.body.isSome=true
 A:AQ
 h:List Al
 kp:List Nat
 R:List AP
 F:Tup h->Option (Eo (R.map (·.h)))
 ok:∀ y r,F y=some r->Az (R.map (·.h)) r fun i l=>OY P f (Fp A (Bd h y)).1 (Fp A (Bd h y)).2 (HZ (ER R i) l).1 ((HZ (ER R i) l).2 ++ Cl kp (Fp A (Bd h y)).2)
def pk:X->Option (FuncId × List X)
 | .c (.func (.func f) a b)=>cond (a.isEmpty && b.isEmpty) (some (f,[])) none
 | .fn f caps=>some (f,caps)
 | _=>none
omit [Mo] in
theorem bQ {x:X}{f:FuncId}{caps:List X}(h:pk x=some (f,caps)):fD x.enc=some (f,CJ caps):=by
 unfold pk at h
 split at h
 · rename_i f0 a b
   obtain ⟨h1,h2⟩:=AR h
   cases h2
   simp only [Bool.and_eq_true] at h1
   have:plain (.func (.func f) a b)=true:=by simp only [plain,h1.1,h1.2]; rfl
   simp only [X.enc,this,if_true]; rfl
 · cases h; rfl
 · cases h
def LS (g:XG):List (Nat × GC)->Acc->Acc
 | [],a=>a
 | (n,.bx _ l) :: r,a=>match gx g (nameOf a n) with
   | some (.bx _ cells)=>LS g r (Gr l cells a)
   | _=>LS g r a
 | _ :: r,a=>LS g r a
def cQ:GC->Bool | .mi _=>false | _=>true
def EF (g:XG) (ρ:Ren):List (Nat × GC)->Ren->Option (List HV)
 | [],[]=>some []
 | (n,sh) :: l,(n', m) :: k=>cond (Nat.beq n' n && cQ sh) (match gx g m with
   | some x=>match BD sh (some (x.AX (inv ρ))),EF g ρ l k with
     | some a,some b=>some (a ++ b)
     | _,_=>none
   | none=>none) none
 | _,_=>none
def LA (g:XG)(ρ:Ren)(kp:List Nat):List (Nat × GC)->Bool
 | []=>true
 | (n,sh) :: l=>(cond (kp.any (Nat.beq n)) (match gx g ((lk ρ n).getD 0) with
   | some x=>x.FB (fun k=>(inv ρ k).isSome) && tT sh (x.AX (inv ρ))
   | none=>false) true) && LA g ρ kp l
inductive CO (C:Au P) where
 | bad
 | BP (o:Nat)
 | call (y:Tup C.h) (ρ:Ren)
def GU (C:Au P) (g:XG) (xs:List X):CO C :=
 let acc:=LS g C.A.o (Gr C.A.a xs ⟨[],[]⟩)
 match acc.fz with
 | o :: _=>.BP o
 | [] =>
   let ρ:=C.A.o.map fun p=>(p.1,nameOf acc p.1)
   match Ln C.A.a (EY (inv ρ) xs),EF g ρ C.A.o ρ with
   | some h1,some h2=>match EB C.h (h1 ++ h2) with
     | some y=>cond (LA g ρ C.kp C.A.o) (.call y ρ) .bad
     | none=>.bad
   | _,_=>.bad
def Bw (l:List Nat)(n:Nat):Bool:=l.any (Nat.beq n)
def fresh (ρ:Ren)(d:Nat):List (Nat × GC)->Ren
 | []=>[]
 | p :: os=>cond (Bw (ρ.map (·.1)) p.1) (fresh ρ d os) ((p.1,400000+d * 100+(p.1 - 500000)) :: fresh ρ d os)
def Uu (g:XG)(n:Nat):Bool:=match g n with | none=>true | some _=>false
def HS (g:XG)(ρ σ:Ren)(kp:List Nat)(os:List (Nat × GC)):Bool :=
 CU ρ && ρ.all (fun p=>Nat.ble 1000000 p.1) && CU (ρ ++ σ) && σ.all (fun p=>Uu g p.2) && Bj (os.map (·.1)) && os.all (fun p=>Bw ((ρ ++ σ).map (·.1)) p.1)
   && (ρ ++ σ).all (fun p=>cond (Bw (os.map (·.1)) p.1) (!(Bw kp p.1)) (Bw kp p.1))
def Cx (R:AP)(ρ:Ren)(d:Nat)(l:List HV):X × XS :=
 let τ:=ρ ++ fresh ρ d R.o
 let q:=HZ R l
 (q.1.AX (AX τ),q.2.map fun p=>((AX τ p.1).getD 0,p.2.map (XO.AX (AX τ))))
theorem CT.wk {f:FuncId}{vs vs':List V}{s s':AD}{Q:V->AD->Prop}(h:CT P AW f vs s Q)(hv:Xq vs' vs)(hs:∀ (B:BK) (w:World) (F:Nat->Prop) (loc:Nat->Option Loc),AO AW B w F loc s' -> AO AW B w F loc s) :
   CT P AW f vs' s' Q:=by
 intro F loc w args hn hS hA
 refine h F loc w args hn (hs _ _ _ _ hS) ⟨by rw [<- hv.1]; exact hA.1,fun j y hj=>?_⟩
 obtain ⟨x,hx,hw⟩:=hv.2 j y hj
 obtain ⟨v,h1,h2⟩:=hA.2 j x hx
 exact ⟨v,h1,hw _ _ _ _ h2⟩
omit [Mo] in
theorem Fm:∀ (os:List (Nat × GC)) (l:List HV),(Ea os l).1.map (·.1)=os.map (·.1)
 | [],l=>rfl
 | (n,sh) :: os,l=>by simp only [Ea,List.map_cons,Fm os]
omit [Mo] in
theorem YW {sh:GC}{x:XO}{f:Nat->Option Nat}{hs:List HV}(hn:cQ sh=true)(h:BD sh (some (x.AX f))=some hs):Ye x.enc=false:=by
 cases x with
 | mi m =>
   have e:(XO.mi m).AX f=.mi (match f m with | some m'=>m' | none=>m):=by simp only [XO.AX]; cases f m <;> rfl
   rw [e] at h
   cases sh <;> first | (cases hn; done) | simp [BD] at h
 | _=>rfl
omit [Mo] in
theorem OC {g:XG} {s:AD} (ha:Ap g s) {ρ0:Ren}:∀ (os:List (Nat × GC)) (ρ:Ren) (hs l:List HV),EF g ρ0 os ρ=some hs ->
   ∃ (L:List (Nat × O)) (Lx:XS),HN ρ0 s ρ=some L/\Oi L=encS Lx/\∃ so,Ea os (hs ++ l)=(so,l)/\eR Lx so
 | [],[],hs,l,h=>by simp only [EF] at h; cases h; exact ⟨[],[],rfl,rfl,[],rfl,.nil⟩
 | (n, sh) :: os,(n', m) :: ρ,hs,l,h=>by
   simp only [EF] at h
   cases hc:(Nat.beq n' n && cQ sh) with
   | false=>rw [hc] at h; cases h
   | true =>
     have hc2:=hc
     rw [Bool.and_eq_true] at hc2
     have hnn:=Nat.eq_of_beq_eq_true hc2.1
     subst hnn
     rw [hc] at h
     simp only [cond_true] at h
     split at h
     · rename_i x hx
       split at h
       · rename_i a b h1 h2
         cases h
         obtain ⟨L,Lx,h3,h4,so,h5,h6⟩:=OC ha os ρ b l h2
         obtain ⟨x', h7,h8⟩:=MN sh (some (x.AX (inv ρ0))) a (b ++ l) h1
         refine ⟨(n', O.AX (inv ρ0) x.enc) :: L,(n', some (x.AX (inv ρ0))) :: Lx,by simp only [HN,ha.get hx,h3,YW hc2.2 h1,cond_false],?_,(n', x') :: so,by rw [List.append_assoc]; simp only [Ea,h7,h5],.cons _ _ _ _ _ h8 h6⟩
         funext k
         have h4':=congrFun h4 k
         unfold Oi encS at h4' ⊢
         rw [List.find?_cons,lk]
         simp only
         cases hk:Nat.beq n' k with
         | true=>simp [XO.CH]
         | false=>simpa using h4'
       · cases h
     · cases h
 | [],_ :: _,_,_,h=>by simp [EF] at h
 | _ :: _,[],_,_,h=>by simp [EF] at h
omit [Mo] in
theorem Xz (f:Nat->Option Nat)(xs:List X):(EY f xs).map X.enc=KM f (xs.map X.enc):=by
 rw [<- Ae,Dt,Ae]
omit [Mo] in
theorem LV {g:XG}{s:AD}(ha:Ap g s){n:Nat}(h:Uu g n=true):s n=none:=by
 unfold Uu at h
 split at h
 · rename_i hn; exact ha.no n hn
 · cases h
omit [Mo] in
theorem bR {τ:Ren} (hτ:CU τ=true) {s:AD}:∀ (u:XS),(∀ p ∈ u,∃ m,AX τ p.1=some m)->Bj (u.map (·.1))=true->∀ n,over s (u.map fun p=>((AX τ p.1).getD 0,p.2.map (XO.AX (AX τ)))) n =
     match inv τ n with
     | some m=>match lk u m with | some x=>some ((x.map XO.enc).map (O.AX (AX τ))) | none=>s n
     | none=>s n:=by
 intro u
 induction u with
 | nil=>intro _ _ n; simp only [List.map_nil,over,lk]; cases inv τ n <;> rfl
 | cons p u ih =>
   obtain ⟨q,x⟩:=p
   intro hm hnd n
   obtain ⟨m,hmm⟩:=hm (q,x) (by simp)
   simp only [List.map_cons,Bj,Bool.and_eq_true,Bool.not_eq_true'] at hnd
   simp only [List.map_cons,over,hmm,Option.getD_some]
   by_cases hn:n=m
   · subst hn
     rw [AA]
     have:inv τ n=some q:=(CF hτ).2 ((Bs hτ).1 hmm)
     rw [this]
     simp only [lk,Nat.beq_refl,cond_true]
     cases x with
     | none=>rfl
     | some x=>simp [XO.CH]
   · rw [AM _ _ hn,ih (fun p hp=>hm p (by simp [hp])) hnd.2 n]
     cases hi:inv τ n with
     | none=>rfl
     | some m' =>
       simp only [lk]
       have:Nat.beq q m' = false:=by
         rw [<- Bool.not_eq_true,Nat.beq_eq]
         rintro rfl
         have h1:=(CF hτ).1 hi
         have h2:=(Bs hτ).2 h1
         rw [h2] at hmm; cases hmm; exact hn rfl
       rw [this]; rfl
omit [Mo] in
theorem BS {l:List Nat}{n:Nat}:Bw l n=true ↔ n ∈ l:=by
 unfold Bw
 rw [List.any_eq_true]
 constructor
 · rintro ⟨x,h1,h2⟩; rw [Nat.eq_of_beq_eq_true h2]; exact h1
 · intro h; exact ⟨n,h,Nat.beq_refl n⟩
omit [Mo] in
theorem NF {g:XG} {ρ0:Ren}:∀ {os:List (Nat × GC)} {ρ:Ren} {hs:List HV},EF g ρ0 os ρ=some hs->os.map (·.1)=ρ.map (·.1)
 | [],[],_,_=>rfl
 | (n, sh) :: os,(n', m) :: ρ,hs,h=>by
   simp only [EF] at h
   cases hc:(Nat.beq n' n && cQ sh) with
   | false=>rw [hc] at h; cases h
   | true =>
     rw [hc] at h
     rw [Bool.and_eq_true] at hc
     simp only [cond_true] at h
     split at h
     · split at h
       · rename_i h2
         simp only [List.map_cons,NF h2,Nat.eq_of_beq_eq_true hc.1]
       · cases h
     · cases h
 | [],_ :: _,_,h=>by simp [EF] at h
 | _ :: _,[],_,h=>by simp [EF] at h
omit [Mo] in
theorem Nk {g:XG} {ρ0:Ren} {kp:List Nat}:∀ (os:List (Nat × GC)) (ρ:Ren) (hs l:List HV) (so:XS),EF g ρ0 os ρ=some hs->Ea os (hs ++ l)=(so,l)->(∀ p ∈ ρ,lk ρ0 p.1=some p.2)->LA g ρ0 kp os=true ->
   ∀ (n m:Nat),lk ρ n=some m->n ∈ kp->∃ x,gx g m=some x/\x.FB (fun k=>(inv ρ0 k).isSome)=true/\lk so n=some (some (x.AX (inv ρ0)))
 | [],[],hs,l,so,h,hf,hr,hk,n,m,hn,hkp=>by simp [lk] at hn
 | (n', sh) :: os,(n2,m') :: ρ,hs,l,so,h,hf,hr,hk,n,m,hn,hkp=>by
   simp only [EF] at h
   cases hc:(Nat.beq n2 n' && cQ sh) with
   | false=>rw [hc] at h; cases h
   | true =>
     have hc2:=hc
     rw [Bool.and_eq_true] at hc2
     have hnn:=Nat.eq_of_beq_eq_true hc2.1
     subst hnn
     rw [hc] at h
     simp only [cond_true] at h
     simp only [LA,Bool.and_eq_true] at hk
     split at h
     · rename_i x hx
       split at h
       · rename_i a b h1 h2
         cases h
         rw [List.append_assoc] at hf
         simp only [Ea] at hf
         simp only [lk] at hn
         cases hq:Nat.beq n2 n with
         | true =>
           have hqq:=Nat.eq_of_beq_eq_true hq
           subst hqq
           rw [hq] at hn
           cases hn
           have hk1:=hk.1
           have hany:(kp.any (Nat.beq n2))=true:=BS.2 hkp
           rw [hany,hr (n2,m') (by simp)] at hk1
           simp only [Option.getD_some,hx,cond_true,Bool.and_eq_true] at hk1
           have:=ej sh (x.AX (inv ρ0)) a (b ++ l) h1 hk1.2
           rw [this] at hf
           injection hf with hf1 hf2
           exact ⟨x,hx,hk1.1,by rw [<- hf1]; simp [lk]⟩
         | false =>
           rw [hq] at hn
           simp only [cond_false] at hn
           obtain ⟨x', h7,_⟩:=MN sh (some (x.AX (inv ρ0))) a (b ++ l) h1
           rw [h7] at hf
           injection hf with hf1 hf2
           obtain ⟨x1,e1,e2,e3⟩:=Nk os ρ b l (Ea os (b ++ l)).1 h2 (Prod.ext rfl hf2) (fun p hp=>hr p (by simp [hp])) hk.2 n m hn hkp
           exact ⟨x1,e1,e2,by rw [<- hf1]; simp [lk,hq,e3]⟩
       · cases h
     · cases h
 | [],_ :: _,_,_,_,h,_,_,_,_,_,_,_=>by simp [EF] at h
 | _ :: _,[],_,_,_,h,_,_,_,_,_,_,_=>by simp [EF] at h
omit [Mo] in
theorem Gx {s:XS}:∀ (kp:List Nat) (n:Nat),lk (Cl kp s) n=if n ∈ kp then lk s n else none
 | [],n=>by simp [Cl,lk]
 | k :: kp,n=>by
   simp only [Cl]
   cases hl:lk s k with
   | none =>
     simp only []
     rw [Gx kp n]
     by_cases hn:n=k
     · subst hn; simp [hl]
     · simp [hn]
   | some x =>
     simp only [lk]
     cases hb:Nat.beq k n with
     | true=>have:=Nat.eq_of_beq_eq_true hb; subst this; simp [hl]
     | false =>
       have hn:¬ n=k:=by rintro rfl; simp at hb
       rw [cond_false,Gx kp n]; simp [hn]
omit [Mo] in
theorem FR {α:Type}:∀ {l:List (Nat × α)} {n:Nat} {a:α},Bj (l.map (·.1))=true->(n,a) ∈ l->lk l n=some a
 | [],_,_,_,h=>by cases h
 | (i, b) :: l,n,a,hd,h=>by
   simp only [List.map_cons,Bj,Bool.and_eq_true,Bool.not_eq_true'] at hd
   rw [lk]
   rcases List.mem_cons.1 h with h | h
   · cases h; simp
   · have:Nat.beq i n=false:=by
       rw [<- Bool.not_eq_true,Nat.beq_eq]
       rintro rfl
       exact Gz hd.1 i (List.mem_map.2 ⟨_,h,rfl⟩) rfl
     rw [this,cond_false]; exact FR hd.2 h
omit [Mo] in
theorem Ui {g:XG} {s:AD} (ha:Ap g s) {ρ σ:Ren} {kp:List Nat} {os:List (Nat × GC)} {out so:XS} (hcb:HS g ρ σ kp os=true) (Cc:out.map (·.1)=os.map (·.1))
   (hkept:∀ (n m:Nat),lk ρ n=some m->n ∈ kp->∃ x,gx g m=some x/\x.FB (fun k=>(inv ρ k).isSome)=true/\lk so n=some (some (x.AX (inv ρ)))) (hso:so.map (·.1)=ρ.map (·.1)) :
   LW (ρ ++ σ) (encS (out ++ Cl kp so)) s=over s (out.map fun p=>((AX (ρ ++ σ) p.1).getD 0,p.2.map (XO.AX (AX (ρ ++ σ))))):=by
 unfold HS at hcb
 simp only [Bool.and_eq_true] at hcb
 obtain ⟨⟨⟨⟨⟨⟨b1,b2⟩,b3⟩,b4⟩,b5⟩,b6⟩,b7⟩:=hcb
 have hnr:Bj (ρ.map (·.1))=true:=by unfold CU at b1; rw [Bool.and_eq_true] at b1; exact b1.1
 have hmem:∀ p ∈ out,∃ m,AX (ρ ++ σ) p.1=some m:=by
   intro p hp
   have h1:p.1 ∈ os.map (·.1):=by rw [<- Cc]; exact List.mem_map.2 ⟨p,hp,rfl⟩
   obtain ⟨q,hq,he⟩:=List.mem_map.1 h1
   have h2:=BS.1 (List.all_eq_true.1 b6 q hq)
   obtain ⟨t,ht,he2⟩:=List.mem_map.1 h2
   exact ⟨t.2,(Bs b3).2 (by rw [<- he,<- he2]; simpa using ht)⟩
 funext n
 rw [bR b3 out hmem (by rw [Cc]; exact b5) n]
 unfold LW
 cases hi:inv (ρ ++ σ) n with
 | none=>rfl
 | some m =>
   have h1:=(CF b3).1 hi
   simp only [encS,AZ]
   cases hl:lk out m with
   | some x=>rfl
   | none =>
     simp only
     have hno:Bw (os.map (·.1)) m=false:=by
       rw [<- Bool.not_eq_true,BS,<- Cc]
       intro hm
       obtain ⟨p,hp,he⟩:=List.mem_map.1 hm
       exact Iy hl p.2 (by rw [<- he]; simpa using hp)
     have h7:=List.all_eq_true.1 b7 _ h1
     simp only [hno,cond_false] at h7
     have hmk:=BS.1 h7
     rw [Gx,if_pos hmk]
     rcases List.mem_append.1 h1 with hr | hs
     · obtain ⟨x,e1,e2,e3⟩:=hkept m n (FR hnr hr) hmk
       rw [e3,ha.is _ _ (CC e1)]
       simp only [Option.map_some]
       rw [<- XO.CH,XO.JC _ _ (fun a b hab=>?_) x e2]
       exact (Bs b3).2 (List.mem_append_left _ ((CF b1).1 hab))
     · have hnone:lk so m=none:=by
         cases hq:lk so m with
         | none=>rfl
         | some y =>
           exfalso
           have h3:m ∈ ρ.map (·.1):=by rw [<- hso]; exact List.mem_map.2 ⟨_,Cm hq,rfl⟩
           obtain ⟨p,hp,he⟩:=List.mem_map.1 h3
           unfold CU at b3
           rw [Bool.and_eq_true] at b3
           have h5:∀ (l:Ren) (p q:Nat × Nat),Bj (l.map (·.1))=true->p ∈ l->q ∈ l->p.1=q.1->p=q:=by
             intro l p q hd hp hq he
             have e1:=FR hd (show (p.1,p.2) ∈ l from hp)
             have e2:=FR hd (show (q.1,q.2) ∈ l from hq)
             rw [he,e2] at e1
             exact Prod.ext he (Option.some.inj e1).symm
           have hpq:=h5 _ p (m,n) b3.1 (List.mem_append_left _ hp) h1 he
           subst hpq
           have:∀ (a b:Ren) (q:Nat × Nat),Bj ((a ++ b).map (·.1))=true->q ∈ a->q ∈ b->False:=by
             intro a b q hd h1 h2
             induction a with
             | nil=>cases h1
             | cons z a ih =>
               simp only [List.cons_append,List.map_cons,Bj,Bool.and_eq_true,Bool.not_eq_true'] at hd
               rcases List.mem_cons.1 h1 with h1 | h1
               · subst h1
                 exact Gz hd.1 q.1 (List.mem_map.2 ⟨q,List.mem_append_right _ h2,rfl⟩) rfl
               · exact ih hd.2 h1
           exact this ρ σ _ b3.1 hp hs
       rw [hnone,LV ha (List.all_eq_true.1 b4 _ hs)]; rfl
def Mq (D:Ay)(e:Operand->X):Op->Option (Option (FuncId × List X))
 | .call ⟨.value f,args,_⟩=>some (match pk (e f) with | some (g,caps)=>some (g,args.toList.map e ++ caps) | none=>none)
 | .call ⟨.invoke r n,args,_⟩=>some (match e r with | .Aw t x=>(match D.WG t n with | some g=>some (g,x :: args.toList.map e) | none=>none) | _=>none)
 | _=>none
omit [Mo] in
theorem Ry {D:Ay} {e:Operand->X} {op:Op} {f:FuncId} {xs:List X} (h:Mq D e op=some (some (f,xs))) :
   (∃ fop az ts caps,op=.call ⟨.value fop,az,ts⟩/\pk (e fop)=some (f,caps)/\xs=az.toList.map e ++ caps)\/(∃ r n az ts t x,op=.call ⟨.invoke r n,az,ts⟩/\e r=.Aw t x/\D.WG t n=some f/\xs=x :: az.toList.map e):=by
 unfold Mq at h
 split at h
 · rename_i fop az ts
   split at h
   · rename_i g caps hf
     cases h
     exact .inl ⟨fop,az,ts,caps,rfl,hf,rfl⟩
   · cases h
 · rename_i r n az ts
   split at h
   · rename_i t x hx
     split at h
     · rename_i g hm
       cases h
       exact .inr ⟨r,n,az,ts,t,x,rfl,hx,hm,rfl⟩
     · cases h
   · cases h
 · cases h
theorem Pf (hg:Good P D) {C:Au P} {g:XG} {o:Oper} {st:St} (ha:Ap g st.s) {e:Operand->X} {xs:List X} {y:Tup C.h} {ρ:Ren}
   (hcf:Mq D e o.op=some (some (C.f,xs))) (he:∀ x ∈ o.op.operands.toList,ev AW st.t x=(e x).enc) (hc:GU C g xs=.call y ρ)
   (d:Nat) {r:Eo (C.R.map (·.h))} (hr:C.F y=some r) :
   Az (C.R.map (·.h)) r fun i l=>HS g ρ (fresh ρ d (ER C.R i).o) C.kp (ER C.R i).o=true->ZR P AW o st (Cx (ER C.R i) ρ d l).1.enc (over st.s (Cx (ER C.R i) ρ d l).2):=by
 unfold GU at hc
 simp only at hc
 split at hc
 · cases hc
 · split at hc
   · rename_i h1 h2 e1 e2
     split at hc
     · rename_i y' hy
       cases hkb:LA g (C.A.o.map fun p=>(p.1,nameOf (LS g C.A.o (Gr C.A.a xs ⟨[],[]⟩)) p.1)) C.kp C.A.o with
       | false=>rw [hkb] at hc; cases hc
       | true =>
       rw [hkb] at hc
       simp only [cond_true] at hc
       injection hc with hc1 hc2
       subst hc1
       refine KQ _ _ ?_ (C.ok y' r hr)
       intro i l hct hcb
       rw [hc2] at e1 e2 hkb
       have ho:=DY C.h _ y' hy
       obtain ⟨xs', k1,k2⟩:=Gv C.A.a _ h1 h2 e1
       obtain ⟨L,Lx,k3,k4,so,k5,k6⟩:=OC ha (ρ0:=ρ) C.A.o ρ h2 [] e2
       have hb:=hcb
       unfold HS at hcb
       simp only [Bool.and_eq_true] at hcb
       obtain ⟨⟨⟨⟨⟨⟨b1,b2⟩,b3⟩,b4⟩,b5⟩,b6⟩,b7⟩:=hcb
       have hnr:Bj (ρ.map (·.1))=true:=by unfold CU at b1; rw [Bool.and_eq_true] at b1; exact b1.1
       have hkept:=Nk C.A.o ρ h2 [] so e2 k5 (fun p hp=>FR hnr (by simpa using hp)) hkb
       rw [List.append_nil] at k5
       have hin:Fp C.A (Bd C.h y')=(xs', so):=by rw [ho]; unfold Fp; simp only [k1,k5]
       have hso:so.map (·.1)=ρ.map (·.1):=by
         rw [<- NF e2]
         have:=Fm C.A.o h2
         rw [k5] at this; exact this
       rw [hin] at hct
       have hct':CT P AW C.f (KM (inv ρ) (xs.map X.enc)) (Oi L) fun r' s'=>r' = (HZ (ER C.R i) l).1.enc/\s' = encS ((HZ (ER C.R i) l).2 ++ Cl C.kp so):=by
         refine CT.wk hct ?_ ?_
         · rw [<- Xz]; exact k2
         · intro B w F loc h
           rw [k4] at h
           have:=AO.rD (post:=[]) k6 [] (by simpa using h)
           simpa using this
       have hfree:((fresh ρ d (ER C.R i).o).all fun p=>(st.s p.2).isNone)=true:=by
         rw [List.all_eq_true] at b4 ⊢
         intro p hp
         rw [LV ha (b4 p hp)]; rfl
       have:ZR P AW o st ((HZ (ER C.R i) l).1.enc.AX (AX (ρ ++ fresh ρ d (ER C.R i).o))) (LW (ρ ++ fresh ρ d (ER C.R i).o) (encS ((HZ (ER C.R i) l).2 ++ Cl C.kp so)) st.s):=by
         rcases Ry hcf with ⟨fop,args,ts,caps,hop,hf,rfl⟩ | ⟨rc,nm,args,ts,t,x,hop,hx,hm,rfl⟩
         · have hfop:ev AW st.t fop=(e fop).enc:=he fop (by rw [hop]; simp [Op.operands,Call.operands])
           have hargs:args.toList.map (ev AW st.t)=(args.toList.map e).map X.enc:=by
             rw [List.map_map]
             refine List.map_congr_left fun z hz=>he z ?_
             rw [hop]; simp only [Op.operands,Call.operands,Array.toList_append,List.mem_append]; exact .inr hz
           exact ZR.call (σ:=fresh ρ d (ER C.R i).o) hop (by rw [hfop]; exact bQ hf) C.ZQ C.LU C.hb b1 b2 k3 (by rw [hargs,Ae,<- List.map_append]) hct' b3 hfree
         · have hrc:ev AW st.t rc=.Aw t x.enc:=by rw [he rc (by rw [hop]; simp [Op.operands,Call.operands]),hx]; rfl
           have hargs:args.toList.map (ev AW st.t)=(args.toList.map e).map X.enc:=by
             rw [List.map_map]
             refine List.map_congr_left fun z hz=>he z ?_
             rw [hop]; simp only [Op.operands,Call.operands,Array.toList_append,List.mem_append]; exact .inr hz
           exact ZR.nE (σ:=fresh ρ d (ER C.R i).o) hg hop hrc hm C.ZQ C.LU C.hb b1 b2 k3 (by rw [hargs,List.map_cons]) hct' b3 hfree
       rw [Ui ha hb (by unfold HZ; exact Fm _ _) hkept hso] at this
       unfold Cx
       simp only
       rw [X.CH]
       exact this
     · cases hc
   · cases hc
end Go.Proofs.YthoimblkpcikdaaGreatDoor.Mc
namespace Go.Proofs.YthoimblkpcikdaaGreatDoor.Mc
open Go.RowKit
variable [Mo]
set_option linter.constructorNameAsVariable false
variable {P:Program}{D:Ay}
def Ho (st:BF)(dst:Option Nat)(v:X)(u:XS):BF:=⟨match dst with | some d=>(d,v) :: st.t | none=>st.t,u ++ st.s⟩
omit [Mo] in
theorem Bv (E:XE)(st:BF)(dst:Option Nat)(v:X)(u:XS):AJ E (Ho st dst v u)=(AJ E st).put dst v.enc (over (AJ E st).s u):=by
 cases dst with
 | none =>
   show St.mk (Ci (st.t ++ E.t)) (encS ((u ++ st.s) ++ E.s)) E.n E.a=St.mk _ _ _ _
   rw [List.append_assoc,Ew]; rfl
 | some d =>
   show St.mk (Ci ((d,v) :: (st.t ++ E.t))) (encS ((u ++ st.s) ++ E.s)) E.n E.a=St.mk _ _ _ _
   rw [List.append_assoc,Ew,KL]; rfl
def gu (E:XE)(dst:Option Nat):Bool:=match dst with | some d=>Nat.blt d E.n | none=>true
def bE (E:XE)(st:BF):Operand->X:=wM (st.t ++ E.t)
def gE (E:XE)(st:BF):XG:=fun n=>lk (st.s ++ E.s) n
omit [Mo] in
theorem Rq (E:XE)(st:BF):Ap (gE E st) (AJ E st).s:=by
 constructor
 · intro o x h
   show encS (st.s ++ E.s) o=_
   unfold encS
   rw [show lk (st.s ++ E.s) o=some (some x) from h]; rfl
 · intro d h
   show encS (st.s ++ E.s) d=_
   unfold encS
   rw [show lk (st.s ++ E.s) d=none from h]
omit [Mo] in
theorem Lt (E:XE)(st:BF)(x:Operand):ev AW (AJ E st).t x=(bE E st x).enc:=(eV _ x).symm
def SU (ops:Array Oper)(E:XE)(o:Oper)(st:BF):Option Bool :=
 match o.guard with
 | none=>some true
 | some (j,w)=>match (ops[j]?).bind (·.dst) with
   | some d=>cond (Nat.blt d E.n) (match ZP E st d with | .b q=>some (q == w) | .tp []=>some false | _=>none) none
   | none=>none
omit [Mo] in
theorem MH (E:XE)(st:BF)(i:Nat):(AJ E st).t i=(ZP E st i).enc:=Ft _ i
omit [Mo] in
theorem Fo {ops:Array Oper} {E:XE} {o:Oper} {st:BF} {b:Bool} (h:SU ops E o st=some b):want ops o (AJ E st)=some b:=by
 unfold SU at h
 unfold want
 split at h
 · rename_i hg; rw [hg]; exact h
 · rename_i j w hg
   rw [hg]
   simp only
   split at h
   · rename_i d hd
     rw [hd]
     simp only
     cases hn:Nat.blt d E.n with
     | false=>rw [hn] at h; cases h
     | true =>
       rw [hn] at h
       simp only [cond_true] at h
       have hn':Nat.blt d (AJ E st).n=true:=hn
       rw [hn', MH]
       split at h
       · rename_i q hq; rw [hq]; exact h
       · rename_i hq; rw [hq]; exact h
       · cases h
   · cases h
variable {G:BJ}
theorem BE.opW {ops:Array Oper}{o:Oper}{l:List Oper}{st:St}{Q:Exit->St->Prop}{v:V}{s':AD}(hw:want ops o st=some true)(hd:fits st o.dst=true)(h:ZR P G o st v s')
   (k:BE P G ops l (st.put o.dst v s') Q):BE P G ops (o :: l) st Q:=by
 intro B F loc a w hR hdf
 show if _ then _ else _
 rw [DN hR hw]
 simp only [if_true]
 left
 exact h B F loc a w hR _ _ fun x F' loc' w' hS hk hs hv=>k B F' loc' _ w' (hR.put hd hS hk hs hv) (by cases ho:o.dst <;> simp [Act.put,hdf])
theorem BE.opD {ops:Array Oper}{o:Oper}{l:List Oper}{st:St}{Q:Exit->St->Prop}{c:Bool}{v1 v2:V}(hw:want ops o st=some true)(hd:fits st o.dst=true)(h:tW P o st c v1 v2)
   (k1:c=true->BE P AW ops l (st.put o.dst v1 st.s) Q) (k2:BE P AW ops l (st.put o.dst v2 st.s) Q):BE P AW ops (o :: l) st Q:=by
 intro B F loc a w hR hdf
 show if _ then _ else _
 rw [DN hR hw]
 simp only [if_true]
 left
 obtain ⟨x,hrun,hx⟩:=h B F loc a w hR
 unfold Oper.wp
 rw [hrun]
 have hdf':(a.put o.dst x).defers=[]:=by cases ho:o.dst <;> simp [Act.put,hdf]
 rcases hx with ⟨hc,hx⟩ | hx
 · exact k1 hc B F loc _ w (hR.put hd hR.s (Kept.refl _ _) (BC.refl _) hx) hdf'
 · exact k2 B F loc _ w (hR.put hd hR.s (Kept.refl _ _) (BC.refl _) hx) hdf'
noncomputable def iB {R:Type}(c:Bool)(A B:Option R):Option R:=cond c (open Classical in if A=B then B else none) B
omit [Mo] in
theorem ai {R:Type}{c:Bool}{A B:Option R}{r:R}(h:iB c A B=some r):(c=true->A=some r)/\B=some r:=by
 cases c with
 | false=>exact ⟨fun h=>(by cases h),h⟩
 | true =>
   simp only [iB,cond_true] at h
   split at h
   · rename_i hab; exact ⟨fun _=>by rw [hab]; exact h,h⟩
   · cases h
noncomputable def IY {α R:Type}(l:List α)(g:Nat->α->Option R):Option R :=
 open Classical in if h:∃ r,l ≠ []/\∀ (j:Nat) (a:α),l[j]? = some a->g j a=some r then some (Classical.choose h) else none
omit [Mo] in
theorem Zj {α R:Type}{l:List α}{g:Nat->α->Option R}{r:R}(h:IY l g=some r):l ≠ []/\∀ (j:Nat) (a:α),l[j]? = some a->g j a=some r:=by
 unfold IY at h
 split at h
 · rename_i hh
   cases h
   exact Classical.choose_spec hh
 · cases h
omit [Mo] in
theorem eD {α R:Type}{l:List α}{g:Nat->α->Option R}{r:R}(hl:l ≠ [])(hg:∀ (j:Nat) (a:α),l[j]? = some a->g j a=some r):IY l g=some r:=by
 have hh:∃ r,l ≠ []/\∀ (j:Nat) (a:α),l[j]? = some a->g j a=some r:=⟨r,hl,hg⟩
 unfold IY
 rw [dif_pos hh]
 obtain ⟨_,h2⟩:=Classical.choose_spec hh
 cases l with
 | nil=>exact absurd rfl hl
 | cons a l =>
   have e1:=h2 0 a rfl
   have e2:=hg 0 a rfl
   rw [e2] at e1
   exact e1.symm
theorem BE.opA {ops:Array Oper}{o:Oper}{l:List Oper}{st:St}{Q:Exit->St->Prop}{R:V->AD->Prop}(hw:want ops o st=some true)(hd:fits st o.dst=true)(h:vq P o st R)
   (k:∀ v s', R v s' -> BE P AW ops l (st.put o.dst v s') Q):BE P AW ops (o :: l) st Q:=by
 intro B F loc a w hR hdf
 show if _ then _ else _
 rw [DN hR hw]
 simp only [if_true]
 left
 obtain ⟨v,s', hr,F', loc', w', x,r,hrun,hx,hS,hk,hs,hv⟩:=h B F loc a w hR
 unfold Oper.wp
 rw [hrun]
 have hdf':(a.put o.dst x).defers=[]:=by cases ho:o.dst <;> simp [Act.put,hdf]
 rcases hx with rfl | ⟨rfl,rfl⟩
 · exact k v s' hr B F' loc' _ w' (hR.put hd hS hk hs hv) hdf'
 · exact k v s' hr B F' loc' _ w' (hR.put hd hS hk hs hv) hdf'
mutual
def Rx:X->Option Nat
 | .sl _ o=>some o
 | .sw o _ _=>some o
 | .ag l=>Ve l
 | .Aw _ x=>Rx x
 | _=>none
def Ve:List X->Option Nat
 | []=>none
 | x :: l=>match Rx x with | some o=>some o | none=>Ve l
end
def sg:X->Bool | .pe _ _ _=>true | _=>false
def eW (e:Operand->X):Op->Option Nat
 | .buildSlice _ _ parts=>Ve (parts.toList.map fun p=>e p.2)
 | .store _ p x=>cond (sg (e p)) (Rx (e x)) none
 | _=>none
mutual
def Sh.AX (f:Nat->Option Nat):Sh->Sh
 | .sl nl o=>match f o with | some o'=>.sl nl o' | none=>.dead
 | .sw o=>match f o with | some o'=>.sw o' | none=>.dead
 | .pt o off=>match f o with | some o'=>.pt o' off | none=>.dead
 | .pe o off=>match f o with | some o'=>.pe o' off | none=>.dead
 | .mp o=>match f o with | some o'=>.mp o' | none=>.dead
 | .it o=>match f o with | some o'=>.it o' | none=>.dead
 | .sp o=>match f o with | some o'=>.sp o' | none=>.dead
 | .fn g l=>.fn g (Np f l)
 | .ag l=>.ag (Np f l)
 | .tp l=>.tp (Np f l)
 | .Aw t x=>.Aw t (Sh.AX f x)
 | x=>x
def Np (f:Nat->Option Nat):List Sh->List Sh
 | []=>[]
 | x :: l=>Sh.AX f x :: Np f l
end
def GC.AX (f:Nat->Option Nat):GC->GC
 | .bx e l=>.bx e (Np f l)
 | x=>x
def TA (sh:GC)(n:Nat)(st:BF):Option BF :=
 match lk st.s n with
 | some (some x)=>match BD sh (some x) with
   | some hs=>some ⟨st.t,(n,(OU sh hs).1) :: st.s⟩
   | none=>none
 | _=>none
theorem Conv.TA {E:XE} {sh:GC} {n:Nat} {st st':BF} (h:Mc.TA sh n st=some st'):Conv AW (AJ E st) (AJ E st'):=by
 unfold Mc.TA at h
 split at h
 · rename_i x hl
   split at h
   · rename_i hs hgo
     cases h
     obtain ⟨x', h1,h2⟩:=MN sh (some x) hs [] hgo
     rw [List.append_nil] at h1
     rw [h1]
     intro B F loc tmps w hR
     refine ⟨F,loc,⟨?_,hR.t,hR.n,hR.a⟩⟩
     have hS:AO AW B w F loc (encS (st.s ++ E.s)):=hR.s
     have he:encS ((n,some x) :: (st.s ++ E.s))=encS (st.s ++ E.s):=by
       funext m
       unfold encS
       rw [lk]
       cases hb:Nat.beq n m with
       | true=>rw [<- Nat.eq_of_beq_eq_true hb,AZ,hl]; rfl
       | false=>rfl
     have:=AO.uh (pre:=[]) (post:=st.s ++ E.s) (by rw [List.nil_append,he]; exact hS) h2
     exact this
   · cases h
 · cases h
def KU (ρ:Ren)(kp:List Nat):List (Nat × GC)->BF->Option BF
 | [],st=>some st
 | (n,sh) :: l,st=>cond (Bw kp n) (match TA (sh.AX (AX ρ)) ((lk ρ n).getD 0) st with
   | some st'=>KU ρ kp l st'
   | none=>none) (KU ρ kp l st)
theorem GO {E:XE} {ρ:Ren} {kp:List Nat}:∀ {l:List (Nat × GC)} {st st':BF},KU ρ kp l st=some st' -> Conv AW (AJ E st) (AJ E st')
 | [],st,st', h=>by simp only [KU] at h; cases h; exact Conv.refl _
 | (n, sh) :: l,st,st', h=>by
   simp only [KU] at h
   cases hc:Bw kp n with
   | false=>rw [hc] at h; exact GO h
   | true =>
     rw [hc] at h
     simp only [cond_true] at h
     split at h
     · rename_i st1 h1
       exact Conv.trans (Conv.TA h1) (GO h)
     · cases h
def kJ:Op->Option (Operand × List Operand)
 | .call ⟨.value f,args,_⟩=>some (f,args.toList)
 | .call ⟨.invoke r _,args,_⟩=>some (r,args.toList)
 | _=>none
def HM:Option Nat->Nat | some d=>d | none=>99999
def hP {R:Type}(C:Au P)(E:XE)(o:Oper)(st:BF)(y:Tup C.h)(ρ:Ren)(kk:BF->Option R):Option R :=
 (C.F y).bind fun r=>Az (C.R.map (·.h)) r fun i l =>
   cond (HS (gE E st) ρ (fresh ρ (HM o.dst) (ER C.R i).o) C.kp (ER C.R i).o) (kk (Ho st o.dst (Cx (ER C.R i) ρ (HM o.dst) l).1 (Cx (ER C.R i) ρ (HM o.dst) l).2)) none
inductive du (P:Program) where
 | bad
 | call (C:Au P) (y:Tup C.h) (ρ:Ren)
 | BP (o:Nat)
 | nt (st:BF)
def LF (E:XE)(f:FuncId)(xs:List X)(st:BF):List (Au P)->du P
 | []=>.bad
 | C :: Γ => cond (Nat.beq C.f f) (match GU C (gE E st) xs with
   | .call y ρ=>.call C y ρ
   | _=>LF E f xs st Γ) (LF E f xs st Γ)
def Ir (E:XE) (f:FuncId) (xs:List X) (st:BF):List (Au P)->du P
 | []=>.bad
 | C :: Γ => cond (Nat.beq C.f f) (match GU C (gE E st) xs with
   | .BP o=>.BP o
   | _ =>
     let ρ:=C.A.o.map fun p=>(p.1,nameOf (LS (gE E st) C.A.o (Gr C.A.a xs ⟨[],[]⟩)) p.1)
     match EZ E ⟨[],C.A.o⟩ C.A.o (Gr C.A.a xs ⟨[],[]⟩) st with
     | some (_,st1)=>cond (Nat.blt st.s.length st1.s.length) (.nt st1) (cond (LA (gE E st) ρ C.kp C.A.o) (Ir E f xs st Γ) (match KU ρ C.kp C.A.o st with
     | some st'=>.nt st'
     | none=>Ir E f xs st Γ))
     | none=>Ir E f xs st Γ) (Ir E f xs st Γ)
def SY (E:XE)(f:FuncId)(xs:List X)(st:BF)(Γ : List (Au P)):du P :=
 match LF E f xs st Γ with
 | .bad=>Ir E f xs st Γ
 | p=>p
noncomputable def PD {R:Type} (D:Ay) (rows:Nat->Option Row) (Γ : List (Au P)) (ops:Array Oper) (E:XE):Nat->Oper->BF->(BF->Option R)->Option R
 | 0,_,_,_=>none
 | n + 1,o,st,kk=>match SU ops E o st,gu E o.dst with
   | some true,true=>match Mq D (bE E st) o.op with
     | some fx=>match fx with
       | some (f,xs)=>match SY E f xs st Γ with
         | .call C y ρ=>hP C E o st y ρ kk
         | .BP q=>match Df E q st with
           | some st'=>PD D rows Γ ops E n o st' kk
           | none=>none
         | .nt st'=>PD D rows Γ ops E n o st' kk
         | .bad=>none
       | none=>none
     | none=>match eW (bE E st) o.op with
       | some q=>match Df E q st with
         | some st'=>PD D rows Γ ops E n o st' kk
         | none=>none
       | none=>match nk D rows (gE E st) (bE E st) o with
         | .ok v u=>kk (Ho st o.dst v u)
         | .Ao q v u=>Ao q (kk (Ho st o.dst v u))
         | .SD _ m f=>m.bind fun a=>kk (Ho st o.dst (f a).1 (f a).2)
         | .Ld c v1 v2=>iB c (kk (Ho st o.dst v1 [])) (kk (Ho st o.dst v2 []))
         | .cs c v1 u1 v2 u2=>cond c (kk (Ho st o.dst v1 u1)) (kk (Ho st o.dst v2 u2))
         | .any _ v0 u0 l f=>cond l.isEmpty (kk (Ho st o.dst v0 u0)) (IY l fun j a=>kk (Ho st o.dst (f j a).1 (f j a).2))
         | _=>none
   | _,_=>none
theorem Hn {E:XE} {f:FuncId} {xs:List X} {st:BF}:∀ {Γ : List (Au P)} {C:Au P} {y:Tup C.h} {ρ:Ren},LF E f xs st Γ = .call C y ρ->C.f=f/\GU C (gE E st) xs=.call y ρ
 | [],C,y,ρ,h=>by cases h
 | C' :: Γ,C,y,ρ,h=>by
   simp only [LF] at h
   cases hc:Nat.beq C'.f f with
   | false=>rw [hc] at h; exact Hn h
   | true =>
     rw [hc] at h
     simp only [cond_true] at h
     split at h
     · rename_i y' ρ' hci
       cases h
       exact ⟨Nat.eq_of_beq_eq_true hc,hci⟩
     · exact Hn h
theorem Hu {E:XE} {f:FuncId} {xs:List X} {st:BF}:∀ {Γ : List (Au P)},LF E f xs st Γ = .bad\/∃ C y ρ,LF E f xs st Γ = .call C y ρ
 | []=>.inl rfl
 | C' :: Γ => by
   simp only [LF]
   cases Nat.beq C'.f f with
   | false=>exact Hu
   | true =>
     simp only [cond_true]
     split
     · exact .inr ⟨_,_,_,rfl⟩
     · exact Hu
theorem FO {E:XE} {f:FuncId} {xs:List X} {st st':BF}:∀ {Γ : List (Au P)},Ir E f xs st Γ = .nt st' -> Conv AW (AJ E st) (AJ E st')
 | [],h=>by cases h
 | C' :: Γ,h=>by
   simp only [Ir] at h
   cases hc:Nat.beq C'.f f with
   | false=>rw [hc] at h; exact FO h
   | true =>
     rw [hc] at h
     simp only [cond_true] at h
     split at h
     · cases h
     · split at h
       · rename_i a1 st1 hw
         cases hb:Nat.blt st.s.length st1.s.length with
         | true =>
           rw [hb] at h
           cases h
           exact Bp hw
         | false =>
           rw [hb] at h
           simp only [cond_false] at h
           cases hk:LA (gE E st) (C'.A.o.map fun p=>(p.1,nameOf (LS (gE E st) C'.A.o (Gr C'.A.a xs ⟨[],[]⟩)) p.1)) C'.kp C'.A.o with
           | true=>rw [hk] at h; exact FO h
           | false =>
             rw [hk] at h
             simp only [cond_false] at h
             split at h
             · rename_i st1 h1
               cases h
               exact GO h1
             · exact FO h
       · exact FO h
theorem EO {E:XE} {f:FuncId} {xs:List X} {st:BF} {C:Au P} {y:Tup C.h} {ρ:Ren}:∀ {Γ : List (Au P)},Ir E f xs st Γ ≠ .call C y ρ
 | [],h=>by cases h
 | C' :: Γ,h=>by
   simp only [Ir] at h
   cases hc:Nat.beq C'.f f with
   | false=>rw [hc] at h; exact EO h
   | true =>
     rw [hc] at h
     simp only [cond_true] at h
     split at h
     · cases h
     · split at h
       · rename_i a1 st1 hw
         cases hb:Nat.blt st.s.length st1.s.length with
         | true=>rw [hb] at h; cases h
         | false =>
           rw [hb] at h
           simp only [cond_false] at h
           cases hk:LA (gE E st) (C'.A.o.map fun p=>(p.1,nameOf (LS (gE E st) C'.A.o (Gr C'.A.a xs ⟨[],[]⟩)) p.1)) C'.kp C'.A.o with
           | true=>rw [hk] at h; exact EO h
           | false =>
             rw [hk] at h
             simp only [cond_false] at h
             split at h
             · cases h
             · exact EO h
       · exact EO h
theorem VG {E:XE}{f:FuncId}{xs:List X}{st:BF}{Γ : List (Au P)}{C:Au P}{y:Tup C.h}{ρ:Ren}(h:SY E f xs st Γ = .call C y ρ):C.f=f/\GU C (gE E st) xs=.call y ρ:=by
 unfold SY at h
 split at h
 · exact absurd h EO
 · exact Hn h
theorem Yx {E:XE}{f:FuncId}{xs:List X}{st st':BF}{Γ : List (Au P)}(h:SY E f xs st Γ = .nt st'):Conv AW (AJ E st) (AJ E st'):=by
 unfold SY at h
 split at h
 · exact FO h
 · rcases Hu (E:=E) (f:=f) (xs:=xs) (st:=st) (Γ := Γ) with h1 | ⟨C,y,ρ,h1⟩
   · rw [h1] at h; cases h
   · rw [h1] at h; cases h
theorem Ed (hg:Good P D) {R:Type} {rows:Nat->Option Row} {Γ : List (Au P)} {ops:Array Oper} {E:XE} {l:List Oper} {Q:Exit->St->Prop} {r:R}:∀ (n:Nat) (o:Oper) (st:BF) (kk:BF->Option R),PD D rows Γ ops E n o st kk=some r ->
   (∀ st', kk st' = some r->BE P AW ops l (AJ E st') Q)->BE P AW ops (o :: l) (AJ E st) Q
 | 0,_,_,_,h,_=>by cases h
 | n + 1, o, st,kk,h,hk=>by
   simp only [PD] at h
   split at h
   · rename_i hw hfit
     have hw':=Fo hw
     have hd:fits (AJ E st) o.dst=true:=hfit
     split at h
     · rename_i fx hco
       split at h
       · rename_i f xs
         split at h
         · rename_i C y ρ hp
           obtain ⟨rfl,hci⟩:=VG hp
           unfold hP at h
           obtain ⟨z,hz,h⟩:=Dx h
           have law:=Pf hg (Rq E st) hco (fun x _=>Lt E st x) hci (HM o.dst) hz
           obtain ⟨i,l', h1,h2⟩:=KB _ z h law
           obtain ⟨hcb,h1⟩:=Dm (c:=HS _ _ _ _ _) h1
           refine BE.opW hw' hd (h2 hcb) ?_
           rw [<- Bv]
           exact hk _ h1
         · split at h
           · rename_i st' hfz
             exact BE.conv (Conv.Df hfz) (Ed hg n o st' kk h hk)
           · cases h
         · rename_i st' hp
           exact BE.conv (Yx hp) (Ed hg n o st' kk h hk)
         · cases h
       · cases h
     · split at h
       · split at h
         · rename_i st' hfz
           exact BE.conv (Conv.Df hfz) (Ed hg n o st' kk h hk)
         · cases h
       · have law:=Sn (o:=o) (st:=AJ E st) (rows:=rows) hg (Rq E st) (fun x _=>Lt E st x)
         split at h
         · rename_i v u hx
           rw [hx] at law
           refine BE.op hw' hd law ?_
           rw [<- Bv]; exact hk _ h
         · rename_i q v u hx
           rw [hx] at law
           obtain ⟨hq,h⟩:=Dm h
           refine BE.op hw' hd (law hq) ?_
           rw [<- Bv]; exact hk _ h
         · rename_i α m f hx
           rw [hx] at law
           obtain ⟨a,ha,h⟩:=Dx h
           refine BE.op hw' hd (law a ha) ?_
           rw [<- Bv]; exact hk _ h
         · rename_i c v1 v2 hx
           rw [hx] at law
           obtain ⟨h1,h2⟩:=ai h
           refine BE.opD hw' hd law (fun hc=>?_) ?_
           · have:=Bv E st o.dst v1 []
             simp only [over] at this
             rw [<- this]; exact hk _ (h1 hc)
           · have:=Bv E st o.dst v2 []
             simp only [over] at this
             rw [<- this]; exact hk _ h2
         · rename_i c v1 u1 v2 u2 hx
           rw [hx] at law
           cases c with
           | true =>
             refine BE.op hw' hd (law.1 rfl) ?_
             rw [<- Bv]; exact hk _ h
           | false =>
             refine BE.op hw' hd (law.2 rfl) ?_
             rw [<- Bv]; exact hk _ h
         · rename_i α v0 u0 l0 f hx
           rw [hx] at law
           cases l0 with
           | nil =>
             refine BE.op hw' hd (law.1 rfl) ?_
             rw [<- Bv]; exact hk _ h
           | cons a0 l0 =>
             obtain ⟨_,h2⟩:=Zj (show IY (a0 :: l0) _=some r from h)
             refine BE.opA hw' hd (law.2 (by simp)) ?_
             rintro v s' ⟨j,a1,hj,rfl,rfl⟩
             rw [<- Bv]; exact hk _ (h2 j a1 hj)
         · cases h
   · cases h
end Go.Proofs.YthoimblkpcikdaaGreatDoor.Mc
namespace Go.Proofs.YthoimblkpcikdaaGreatDoor.Mc
open Go.RowKit
variable [Mo]
variable {P:Program}{D:Ay}
inductive Way (ops:Array Oper):Nat->Nat->Prop where
 | one {i j:Nat} (h:depOn ops i j=true):Way ops i j
 | step {i k j:Nat} (h:depOn ops i k=true) (w:Way ops k j):Way ops i j
omit [Mo] in
theorem Way.down {ops:Array Oper}{p:Nat->Prop}(hd:∀ a b,p a->depOn ops a b=true->p b){i j:Nat}(w:Way ops i j)(hi:p i):p j:=by
 induction w with
 | one h=>exact hd _ _ hi h
 | step h _ ih=>exact ih (hd _ _ hi h)
section
variable {ops:Array Oper}{t:Nat->V}{s:AD}{n:Nat}{an:List Nat}{Bq:List V}{us:Nat->XS}{ns:Nat->List Nat}{B:BK}
def acc (us:Nat->XS)(f:Nat->Bool):Nat->XS
 | 0=>[]
 | k+1=>cond (f k) (us k) [] ++ acc us f k
structure dq (ops:Array Oper)(n:Nat)(us:Nat->XS)(ns:Nat->List Nat):Prop where
 fit:∀ (i:Nat) (o:Oper) (d:Nat),ops[i]? = some o->o.dst=some d->d < n
 uniq:∀ (i:Nat) (o:Oper) (d:Nat),ops[i]? = some o->o.dst=some d->Pp ops d=some i
 reads:∀ i,i < ops.size->∀ d ∈ Ez ops i,∀ j,Pp ops d=some j->depOn ops i j=true\/depOn ops j i=true\/i=j
 low:∀ i j,depOn ops i j=true->j < i
 tK:∀ i j,i < ops.size->j < ops.size->i ≠ j->Way ops i j\/Way ops j i\/∀ m x,lk (us j) m=some x->m ∉ ns i/\lk (us i) m=none
def Bx (i j:Nat):Bool:=Nat.blt j i
def kA (P:Program)(ops:Array Oper)(t:Nat->V)(s:AD)(n:Nat)(an:List Nat)(Bq:List V)(us:Nat->XS)(ns:Nat->List Nat)(i:Nat):Prop :=
 ∀ st:St,st.n=n->st.a=an->(∀ d ∈ Ez ops i,st.t d=tL ops t Bq (Bx i) d)->(∀ m ∈ ns i,st.s m=over s (acc us (Bx i) ops.size) m)->gD P AW ops (oA ops i) st (Wo Bq i) (over st.s (us i))
structure Inv2 (B:BK)(ops:Array Oper)(t:Nat->V)(s:AD)(n:Nat)(an:List Nat)(Bq:List V)(us:Nat->XS)(listed:Array Bool)(a:Act)(w:World):Prop where
 size:listed.size=ops.size
 down:∀ i j,Lf listed i=true->depOn ops i j=true->Lf listed j=true
 defers:a.defers=[]
 rel:∃ F loc,Rel AW B F loc ⟨tL ops t Bq (Lf listed),over s (acc us (Lf listed) ops.size),n,an⟩ a.tmps w
omit [Mo] in
theorem Cf (s:AD):∀ (u:XS) (m:Nat),over s u m=match lk u m with | some x=>some (x.map XO.enc) | none=>s m
 | [],m=>rfl
 | (o,x) :: u,m=>by
   rw [over,lk]
   by_cases h:m=o
   · subst h; rw [AA]; simp
   · have hb:Nat.beq o m=false:=by rw [<- Bool.not_eq_true,Nat.beq_eq]; exact fun e=>h e.symm
     rw [AM _ _ h,hb,cond_false]; exact Cf s u m
omit [Mo] in
theorem Ey {us:Nat->XS}{f g:Nat->Bool}{m:Nat}:∀ (k:Nat),(∀ j,j < k->f j=g j\/lk (us j) m=none)->lk (acc us f k) m=lk (acc us g k) m
 | 0,_=>rfl
 | k+1,h=>by
   simp only [acc,AZ]
   rw [Ey k (fun j hj=>h j (by omega))]
   rcases h k (by omega) with h1 | h1
   · rw [h1]
   · cases hf:f k <;> cases hg:g k <;> simp [lk,h1]
theorem YO (hc : dq ops n us ns) (hl:∀ i,i < ops.size->kA P ops t s n an Bq us ns i) {listed:Array Bool} {a:Act} {w:World} (hI:Inv2 B ops t s n an Bq us listed a w) {i:Nat} (hi:i ∈ Region.ready .any ops listed)
   {Q':Exit->Act->World->Prop} {K:Act->World->Prop} (hK:∀ a' w', Inv2 B ops t s n an Bq us (listed.setIfInBounds i true) a' w' -> K a' w'):wpOp P ops Q' i K a w:=by
 obtain ⟨his,hL0,hdep⟩:=IP hI.size hi
 obtain ⟨F,loc,hR⟩:=hI.rel
 have hil:i < listed.size:=by rw [hI.size]; exact his
 have ho:ops[i]? = some ops[i]:=by simp [his]
 generalize hoo:ops[i]=o at ho
 have hoA:oA ops i=o:=by unfold oA; rw [Array.getElem?_toList,ho]; rfl
 have unord:∀ j,Lf listed j ≠ Bx i j->j < ops.size->j ≠ i/\¬ Way ops i j/\¬ Way ops j i:=by
   intro j hne hj
   have hji:j ≠ i:=by
     rintro rfl
     apply hne
     rw [hL0]; symm; unfold Bx; rw [<- Bool.not_eq_true,Nat.blt_eq]; omega
   refine ⟨hji,fun hw=>hne ?_,fun hw=>hne ?_⟩
   · have h1:Lf listed j=true:=by
       cases hw with
       | one h=>exact hdep _ h
       | step h w=>exact w.down (p:=fun q=>Lf listed q=true) (fun a b h1 h2=>hI.down a b h1 h2) (hdep _ h)
     have h2:j < i:=hw.down (p:=fun q=>q < i\/q=i) (fun a b h1 h2=>by have:=hc.low _ _ h2; omega) (.inr rfl) |>.elim id (fun h=>absurd h hji)
     rw [h1]; unfold Bx; symm; rw [Nat.blt_eq]; exact h2
   · have h1:Lf listed j=false:=by
       rw [<- Bool.not_eq_true]
       intro hb
       have:=hw.down (p:=fun q=>Lf listed q=true) (fun a b h1 h2=>hI.down a b h1 h2) hb
       rw [hL0] at this; cases this
     have h2:i < j:=hw.down (p:=fun q=>q < j\/q=j) (fun a b h1 h2=>by have:=hc.low _ _ h2; omega) (.inr rfl) |>.elim id (fun h=>absurd h.symm hji)
     rw [h1]; unfold Bx; symm; rw [<- Bool.not_eq_true,Nat.blt_eq]; omega
 have hnone:∀ m,(m ∈ ns i\/lk (us i) m ≠ none)->∀ j,j < ops.size->Lf listed j=Bx i j\/lk (us j) m=none:=by
   intro m hm j hj
   by_cases h:Lf listed j=Bx i j
   · exact .inl h
   · right
     obtain ⟨h1,h2,h3⟩:=unord j h hj
     rcases hc.tK i j his hj (fun e=>h1 e.symm) with h4 | h4 | h4
     · exact absurd h4 h2
     · exact absurd h4 h3
     · cases hx:lk (us j) m with
       | none=>rfl
       | some x =>
         obtain ⟨h5,h6⟩:=h4 m x hx
         rcases hm with hm | hm
         · exact absurd hm h5
         · exact absurd h6 hm
 have law:=hl i his ⟨DU (fun x=>x) (tL ops t Bq (Lf listed)) (Ez ops i),over s (acc us (Lf listed) ops.size),n,an⟩ rfl rfl (fun d hd=>by
     show DU _ _ _ d=_
     rw [Jo,if_pos hd]
     unfold tL
     cases hq:Pp ops d with
     | none=>rfl
     | some q =>
       simp only
       obtain ⟨oq,hoq,_⟩:=Ex hq
       have hqs:=(Array.getElem?_eq_some_iff.1 hoq).1
       have:Lf listed q=Bx i q:=by
         by_cases h:Lf listed q=Bx i q
         · exact h
         · exfalso
           obtain ⟨h1,h2,h3⟩:=unord q h hqs
           rcases hc.reads i his d hd q hq with h4 | h4 | h4
           · exact h2 (.one h4)
           · exact h3 (.one h4)
           · exact h1 h4.symm
       rw [this]) (fun m hm=>by
     show over s _ m=over s _ m
     rw [Cf,Cf,Ey ops.size (hnone m (.inl hm))])
 simp only [hoA] at law
 have hRI:Rel AW B F loc ⟨DU (fun x=>x) (tL ops t Bq (Lf listed)) (Ez ops i),over s (acc us (Lf listed) ops.size),n,an⟩ a.tmps w:=by
   refine ⟨hR.s,fun d=>?_,hR.n,hR.a⟩
   show AH w F loc (DU (fun x=>x) (tL ops t Bq (Lf listed)) (Ez ops i) d) _
   rcases Kp (fun x=>x) (tL ops t Bq (Lf listed)) (Ez ops i) d with ⟨h1,h2⟩ | h1
   · rw [h1]; exact hR.t d
   · rw [h1]; exact .dead _
 have hnew:∀ d,Lf (listed.setIfInBounds i true) d=(Nat.beq d i || Lf listed d):=fun d=>cy hil
 have hdown:∀ p q,Lf (listed.setIfInBounds i true) p=true->depOn ops p q=true->Lf (listed.setIfInBounds i true) q=true:=by
   intro p q hp hd
   rw [hnew] at hp ⊢
   simp only [Bool.or_eq_true] at hp ⊢
   rcases hp with hp | hp
   · rw [Nat.eq_of_beq_eq_true hp] at hd; exact .inr (hdep q hd)
   · exact .inr (hI.down _ _ hp hd)
 have hfit:fits ⟨tL ops t Bq (Lf listed),over s (acc us (Lf listed) ops.size),n,an⟩ o.dst=true:=by
   unfold fits
   cases hd:o.dst with
   | none=>rfl
   | some d=>simpa using hc.fit i o d ho hd
 have hput : ∀ (s':AD),St.put ⟨tL ops t Bq (Lf listed),over s (acc us (Lf listed) ops.size),n,an⟩ o.dst (Wo Bq i) s' = ⟨tL ops t Bq (Lf (listed.setIfInBounds i true)),s', n,an⟩:=by
   intro s'
   have:(match o.dst with | some d=>Am (tL ops t Bq (Lf listed)) d (Wo Bq i) | none=>tL ops t Bq (Lf listed))=tL ops t Bq (Lf (listed.setIfInBounds i true)):=by
     funext d
     cases hd:o.dst with
     | none =>
       show tL ops t Bq (Lf listed) d=_
       unfold tL
       cases hq:Pp ops d with
       | none=>rfl
       | some q =>
         obtain ⟨oq,hoq,hdq⟩:=Ex hq
         have:Nat.beq q i=false:=by
           rw [<- Bool.not_eq_true,Nat.beq_eq]
           rintro rfl
           rw [ho] at hoq; cases hoq; rw [hd] at hdq; cases hdq
         simp only [hnew,this,Bool.false_or]
     | some d' =>
       show Am (tL ops t Bq (Lf listed)) d' (Wo Bq i) d=_
       by_cases hdd:d=d'
       · subst hdd
         rw [AA]
         unfold tL
         rw [hc.uniq i o d ho hd]
         simp only [hnew,Nat.beq_refl,Bool.true_or,cond_true]
       · rw [AM _ _ hdd]
         unfold tL
         cases hq:Pp ops d with
         | none=>rfl
         | some q =>
           obtain ⟨oq,hoq,hdq⟩:=Ex hq
           have:Nat.beq q i=false:=by
             rw [<- Bool.not_eq_true,Nat.beq_eq]
             rintro rfl
             rw [ho] at hoq; cases hoq; rw [hd] at hdq; exact hdd (Option.some.inj hdq).symm
           simp only [hnew,this,Bool.false_or]
   exact congrArg (fun t=>St.mk t s' n an) this
 have hsto : over (over s (acc us (Lf listed) ops.size)) (us i)=over s (acc us (Lf (listed.setIfInBounds i true)) ops.size):=by
   funext m
   rw [Cf,Cf,Cf]
   have key:∀ k,i < k->k<=ops.size->lk (acc us (Lf (listed.setIfInBounds i true)) k) m=match lk (us i) m with | some x=>some x | none=>lk (acc us (Lf listed) k) m:=by
     intro k
     induction k with
     | zero=>intro h; omega
     | succ k ih =>
       intro hik hks
       simp only [acc,AZ]
       by_cases hki:k=i
       · subst hki
         have e1:Lf (listed.setIfInBounds k true) k=true:=by rw [hnew]; simp
         rw [e1,hL0,cond_true,cond_false]
         have e2:lk (acc us (Lf (listed.setIfInBounds k true)) k) m=lk (acc us (Lf listed) k) m:=Ey k fun j hj=>.inl (by
           rw [hnew]
           have:Nat.beq j k=false:=by rw [<- Bool.not_eq_true,Nat.beq_eq]; omega
           rw [this,Bool.false_or])
         rw [e2]
         simp only [lk]
         cases lk (us k) m <;> rfl
       · have e1 : Lf (listed.setIfInBounds i true) k=Lf listed k:=by
           rw [hnew]
           have:Nat.beq k i=false:=by rw [<- Bool.not_eq_true,Nat.beq_eq]; exact hki
           rw [this,Bool.false_or]
         rw [e1,ih (by omega) (by omega)]
         cases hx:lk (us i) m with
         | none=>rfl
         | some x =>
           simp only
           have:lk (cond (Lf listed k) (us k) []) m=none:=by
             cases hLk:Lf listed k with
             | false=>rfl
             | true =>
               rcases hnone m (.inr (by rw [hx]; simp)) k (by omega) with h | h
               · exfalso
                 rw [hLk] at h
                 have:k < i:=by unfold Bx at h; rw [eq_comm,Nat.blt_eq] at h; exact h
                 omega
               · exact h
           rw [this]
   rw [key ops.size his (Nat.le_refl _)]
   cases lk (us i) m <;> rfl
 have fin:∀ (x:Value) (F':Nat->Prop) (loc':Nat->Option Loc) (w':World) (s':AD),s' = over (over s (acc us (Lf listed) ops.size)) (us i)->AO AW B w' F' loc' s' -> Kept w F w' F' -> BC loc loc' -> AH w' F' loc' (Wo Bq i) x->K (a.put o.dst x) w':=by
   intro x F' loc' w' s' hs' hS hkp hsm hv
   rw [hs', hsto] at hS
   refine hK _ _ ⟨by simp [hI.size],hdown,by cases hd:o.dst <;> simp [Act.put,hI.defers],F', loc', ?_⟩
   have:=hR.put hfit hS hkp hsm hv
   rw [hput] at this
   exact this
 unfold wpOp
 rw [ho]
 simp only
 rcases law with ⟨hw,Cc⟩ | ⟨hw,hv,hs⟩
 · rw [if_pos (DN hRI hw)]
   exact .inl (Cc B F loc a w hRI K Q' fun x F' loc' w' h1 h2 h3 h4=>fin x F' loc' w' _ rfl h1 h2 h3 h4)
 · rw [if_neg (by rw [DN hRI hw]; simp)]
   refine fin undef F loc w (over s (acc us (Lf listed) ops.size)) hs.symm hR.s (Kept.refl _ _) (BC.refl _) ?_
   rw [hv]; exact .tp [] [] (fun _=>undef) rfl (fun j hj=>by simp at hj) (fun j x hj=>by simp at hj)
theorem XP (hc:dq ops n us ns) (hl:∀ i,i < ops.size->kA P ops t s n an Bq us ns i) {Q':Exit->Act->World->Prop}
   (hQ:∀ (a:Act) (w:World) (listed:Array Bool),Inv2 B ops t s n an Bq us listed a w->(∀ i,i < ops.size->Lf listed i=true)->Q' .normal a w) :
   ∀ (fuel:Nat) (listed:Array Bool) (a:Act) (w:World) (U:List Nat),Inv2 B ops t s n an Bq us listed a w->U.length<=fuel->(∀ i,i < ops.size->Lf listed i=true\/i ∈ U)->wpAny P .any ops Q' fuel listed a w
 | 0,listed,a,w,U,hI,hU,hcov=>by
   have hall:∀ i,i < ops.size->Lf listed i=true:=fun i hi=>by
     rcases hcov i hi with h | h
     · exact h
     · have:U=[]:=List.eq_nil_of_length_eq_zero (by omega)
       rw [this] at h; cases h
   refine ⟨?_,hQ a w listed hI hall⟩
   cases hr:Region.ready .any ops listed with
   | nil=>rfl
   | cons x xs =>
     obtain ⟨h1,h2,_⟩:=IP hI.size (show x ∈ Region.ready .any ops listed by rw [hr]; simp)
     rw [hall x h1] at h2; cases h2
 | fuel+1,listed,a,w,U,hI,hU,hcov=>by
   refine ⟨fun h0=>?_,fun i hi=>?_⟩
   · refine hQ a w listed hI fun i hi=>?_
     by_cases hb:Lf listed i=true
     · exact hb
     · exfalso
       obtain ⟨j,hj,hj0,hjl⟩:=ZE ⟨i,hi,by simpa using hb⟩
       have:=bM hI.size hj hj0 fun q hq=>hjl q (hc.low _ _ hq)
       rw [h0] at this; cases this
   · obtain ⟨his,hL0,_⟩:=IP hI.size hi
     have hil:i < listed.size:=by rw [hI.size]; exact his
     refine YO hc hl hI hi fun a' w' hI'=>XP hc hl hQ fuel _ a' w' (U.erase i) hI' ?_ fun j hj=>?_
     · rcases hcov i his with h | h
       · rw [h] at hL0; cases hL0
       · rw [List.length_erase_of_mem h]; omega
     · rw [cy hil]
       by_cases hji:j=i
       · subst hji; left; simp
       · rcases hcov j hj with h | h
         · left; rw [h]; simp
         · right; exact (List.mem_erase_of_ne hji).2 h
theorem Tr.any {id:Nat} {Q:Exit->St->Prop} (hm:P.follows .mixedOrders=true) (hc:dq ops n us ns) (hl:∀ i,i < ops.size->kA P ops t s n an Bq us ns i)
   (k:Q .normal ⟨tL ops t Bq (Bx ops.size),over s (acc us (Bx ops.size) ops.size),n,an⟩):Tr P AW (.region id ops true) ⟨t,s,n,an⟩ Q:=by
 intro B F loc a w hR hd
 refine wp_region_any hm (XP (B:=B) hc hl ?_ _ _ _ _ (List.range ops.size) ?_ (by simp) (fun i hi=>.inr (List.mem_range.2 hi)))
 · intro a' w' listed hI hall
   obtain ⟨F', loc', hR'⟩:=hI.rel
   refine ⟨hI.defers,F', loc', _,?_,k⟩
   have e1:tL ops t Bq (Bx ops.size)=tL ops t Bq (Lf listed):=by
     funext d
     unfold tL
     cases hq:Pp ops d with
     | none=>rfl
     | some q =>
       obtain ⟨oq,hoq,_⟩:=Ex hq
       have hqs:=(Array.getElem?_eq_some_iff.1 hoq).1
       have:Bx ops.size q=true:=by unfold Bx; rw [Nat.blt_eq]; exact hqs
       simp only [hall q hqs,this,cond_true]
   have e2:over s (acc us (Bx ops.size) ops.size)=over s (acc us (Lf listed) ops.size):=by
     funext m
     rw [Cf,Cf,Ey (g:=Lf listed) ops.size fun j hj=>.inl (by rw [hall j hj]; unfold Bx; rw [Nat.blt_eq]; exact hj)]
   rw [e1,e2]; exact hR'
 · have hL:∀ i,Lf (Array.replicate ops.size false) i=false:=fun i=>by
     unfold Lf
     by_cases hi:i < ops.size <;> simp [Array.getD_eq_getD_getElem?,hi]
   refine ⟨by simp,fun i j hi=>(by rw [hL] at hi; cases hi),hd,F,loc,?_⟩
   have e:tL ops t Bq (Lf (Array.replicate ops.size false))=t:=by
     funext d
     unfold tL
     cases Pp ops d with
     | none=>rfl
     | some q=>simp only [hL,cond_false]
   have e2:over s (acc us (Lf (Array.replicate ops.size false)) ops.size)=s:=by
     funext m
     rw [Cf,Ey (g:=fun _=>false) ops.size fun j hj=>.inl (hL j)]
     have:∀ k,lk (acc us (fun _=>false) k) m=none:=by
       intro k; induction k with
       | zero=>rfl
       | succ k ih=>simpa [acc] using ih
     rw [this]
   rw [e,e2]
   have hk:Kept w F { w with drawn:=w.drawn+1 } F:=fun b hb=>⟨hb,rfl⟩
   exact ⟨Pb hR.s,fun i=>(hR.t i).mono hk (BC.refl _),hR.n,hR.a⟩
end
end Go.Proofs.YthoimblkpcikdaaGreatDoor.Mc
